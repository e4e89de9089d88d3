/- Marks: slices of scalars. -/
import Derived.Test.YtfplalbognalkaaGreatMFnExactUnnest4
set_option linter.unusedSimpArgs false
set_option linter.unusedVariables false
set_option linter.unnecessarySimpa false
set_option linter.constructorNameAsVariable false
set_option maxRecDepth 100000
set_option maxHeartbeats 16000000
namespace Go.Proofs.YtfplalbognalkaaGreat.Ab
open Go
theorem tree_nil {w:World} {v:Value} {bs:List Nat} {i:Nat} (t:TreeAt w v bs (.fs i [])): ∃a cap,v= .slice a 0 cap/\(a=none->cap=0):=by
 cases t with
 | nil h=>exact ⟨_,_,rfl,h⟩
 | fs bss hn hc hm hk hb hsz hl hr=>subst hn;exact ⟨_,_,rfl,fun h=>by cases h⟩
def oneG (w:World) (b:Nat):Gh:=⟨fun x _=>x<w.heap.size/\x≠b,fun _=>b,fun _=>none,fun _=> .bool true,fun _=> []⟩
theorem vec_hp {b:Bool} {k i:Nat} {ds:List D} :hpF [O.vec b k ds] i=if i=0 then .vec b k ds else .dead:=by
 cases i <;>simp [hpF]
theorem one_inv {w:World} {b k:Nat} {ds:List D} {cs:Array Value} {T:TypeId} (hb:w.heap[b]?=some (.cells cs T (0,0))) (hl:ds.length<=cs.size)
  (hr: ∀(j:Nat) c d,cs[j]?=some c->ds[j]?=some d->Rv w (oneG w b) (hpF [.vec true k ds]) c d/\c.oneCell'=true):Inv w (oneG w b) (hpF [.vec true k ds]):=by
 have no: ∀ {j:Nat} {o:O},hpF [O.vec true k ds] j=o->(∀b k ds,o≠ .vec b k ds)->o= .dead:=fun {j o} e h1=>by
  rw [vec_hp] at e
  split at e
  ·exact absurd e.symm (h1 _ _ _)
  ·exact e.symm
 have lt:b<w.heap.size:=(Array.getElem?_eq_some_iff.1 hb).1
 have z: ∀ {i},(hpF [O.vec true k ds] i).has=true->i=0:=fun {i} h=>by
  rw [vec_hp] at h
  split at h
  ·assumption
  ·cases h
 refine ⟨fun j h=>lt,fun j k h1 h2 _=>(z h1).trans (z h2).symm,fun _ _ p=>p.1,fun j ds e=>?_,fun j n k e=>?_,fun j b' k' ds' e=>?_,fun j l e=>?_,⟨fun j b e=>(by cases e),fun j k b c e=>(by cases e),fun j m' e k hk=>rfl,fun j k m1 m2 e1 e2=>?_,fun j R e=>?_⟩⟩
 ·have:=no e (by simp);cases this
 ·have:=no e (by simp);cases this
 ·rw [vec_hp] at e
  split at e
  ·cases e
   exact ⟨fun h=>(by cases h),fun _=>⟨fun o p=>p.2 rfl,cs,T,hb,hl,hr⟩⟩
  ·cases e
 ·have:=no e (by simp);cases this
 ·have:=no e1 (by simp);cases this
 ·have:=no e (by simp);cases this
theorem markLeaf {P:Program} {fn:FuncId} {k:Nat} {i:Nat} {es es':List (List E)} {z z':Int} (hs: ∀e∈es.flatten,e.sca=true) (hs': ∀e∈es'.flatten,e.sca=true) (hl:es'.length=es.length) (hk': ∀e∈es',e.length=k) (hz:okV (.int .i64 z)=true)
  (h0:es= []->Plain P fn [.e (.sl []),.int z] (.int z'))
  (h1:0<es.length->(∀e∈es,e.length=k)->Proc P fn (fun t=> [.vec (t 0) es.length k,.int z]) (fun _=> [.vec true k (es.flatten.map .e)]) (fun _=> .int z') (fun _=> [.vec true k (es'.flatten.map .e)])) (hk: ∀e∈es,e.length=k):
  MarkC P fn id (.fs i es) (.fs i es') z z':=by
 intro w v bs hnd hlt t
 by_cases he:es= []
 ·subst he
  have he':es'= []:=List.length_eq_zero_iff.1 hl
  subst he'
  obtain ⟨a,cap,rfl,ha⟩:=tree_nil t
  refine (h0 rfl w (pub0 w) _ pub0_inv' rfl fun j x d hx hd=>?_).mono fun en w' ⟨v',d',l',G1,q1,q2,q3,q4,q5⟩=>?_
  ·rcases j with _ | _ | j
   ·cases hx;cases hd;exact .e (.nils ha)
   ·cases hx;cases hd;exact .e (.v hz)
   ·simp at hx
  ·obtain ⟨G2,r1,r2,r3⟩:=q2 w' G1 v' q4 q3
   have x:=r3 _ _ q5
   rw [hpF_nil] at x
   have r1:=rv_e r1
   cases r1 with | v hok=>?_
   exact ⟨q1,hok,x.os,x.tape,x.output,x.size,fun b hb _=>x.others b hb (fun i q=>by simp [O.has] at q) fun i R q=>by simp at q, [],List.nodup_nil,(fun b hb=>(by cases hb)),.nil ha⟩
 ·have hpos:0<es.length:=List.length_pos_iff.2 he
  cases t with
  | nil=>exact absurd rfl he
  | @fs b n cap k2 i es cs T bss hn hc hm hk2 hb hsz hl2 hr=>
   have hkk:k2=k:=by
    obtain ⟨a,r,rfl⟩:=List.exists_cons_of_ne_nil he
    rw [<-hk2 a (by simp),hk a (by simp)]
   subst hkk
   have hfl:es.flatten.length=n * k2:=by rw [flatten_len hk,hn]
   have hfl':es'.flatten.length=n * k2:=by rw [flatten_len hk',hl,hn]
   have hle:n * k2<=cs.size:=Nat.le_trans (Nat.mul_le_mul_right k2 hc) hsz
   have inv:Inv w (oneG w b) (hpF [.vec true k2 (es.flatten.map .e)]):=one_inv hb (by rw [List.length_map,hfl];exact hle) fun j c d hcj hdj=>by
    rw [List.getElem?_map] at hdj
    obtain ⟨e0,h0,rfl⟩:=Option.map_eq_some_iff.1 hdj
    have ht:=hr j e0 h0
    have hsc:=hs e0 (List.mem_of_getElem? h0)
    have hcg:cs.getD j undef=c:=by
     obtain ⟨hj,e⟩:=Array.getElem?_eq_some_iff.1 hcj
     simp [Array.getD,hj,e]
    rw [hcg] at ht
    cases e0 with
    | v x=>
     generalize bss.getD j []=bj at ht
     cases ht with
     | v hx=>exact ⟨.e (.v hx),okV.cell hx⟩
    | _=>simp [E.sca] at hsc
   refine ((h1 hpos hk).ok w (oneG w b) _ inv rfl fun j x d hx hd=>?_).mono fun en w' ⟨v',d',l',G1,q1,q2,q3,q4,q5⟩=>?_
   ·rcases j with _ | _ | j
    ·cases hx;cases hd
     show Rv w _ _ _ (.vec 0 es.length k2)
     rw [hn]
     refine Rv.vec (i:=0) (h:=hpF [O.vec true k2 (es.flatten.map .e)]) (by simp [hpF]) hm hc fun b' k' ds' e=>?_
     simp only [id_eq,vec_hp,if_true,O.vec.injEq] at e
     obtain ⟨rfl,rfl,rfl⟩:=e
     exact ⟨rfl,by rw [List.length_map,hfl];exact Nat.le_refl _,fun h=>(by cases h),fun _=>⟨rfl,cs,T,(0,0),hb,hsz⟩⟩
    ·cases hx;cases hd;exact .e (.v hz)
    ·simp at hx
   ·obtain ⟨G2,r1,r2,r3⟩:=q2 w' G1 v' q4 q3
    have x:=r3 _ _ q5
    have r1:=rv_e r1
    cases r1 with | v hok=>?_
    rcases x.vec 0 true k2 _ rfl with q | ⟨ds',e1,_,g⟩
    ·simp [hpF] at q
    obtain ⟨g1,g2⟩:=g rfl
    have g1:G2.blk 0=b:=g1
    have hlt':b<w'.heap.size:=by rw [<-g1];exact r2.lt 0 (by simp [hpF,O.has])
    obtain ⟨_,cs',T',c1,c2,c3⟩:=(r2.vec 0 _ _ _ rfl).2 rfl
    rw [g1] at c1
    have hsz':cs'.size=cs.size:=by
     have g2:w'.shape? b=w.shape? b:=g2
     rw [shape_size c1,shape_size hb] at g2
     simpa using congrArg (Option.map Prod.snd) g2
    have zz: ∀m:Nat,(List.replicate m ([]:List Nat)).flatten= []:=fun m=>by
     induction m with
     | zero=>rfl
     | succ m ih=>rw [List.replicate_succ,List.flatten_cons,ih];rfl
    refine ⟨q1,hok,x.os,x.tape,x.output,x.size,fun b2 hb2 hn2=>x.others b2 hb2 (fun i q e=>hn2 ?_) (fun i R q=>?_), [b],(by simp),fun b2 hb2=>?_,?_⟩
    ·have e:b=b2:=e
     rw [<-e];exact List.mem_cons_self
    ·simp only [id_eq,vec_hp] at q
     split at q <;>cases q
    ·rw [List.mem_singleton] at hb2
     subst hb2
     exact ⟨hlt',.inl List.mem_cons_self⟩
    ·have:=TreeAt.fs (w:=w') (i:=i) (cap:=cap) (List.replicate (n * k2) []) (hl.trans hn) hc hm hk' c1 (by omega) (by simp) fun j d hd=>?_
     ·rw [zz] at this
      exact this
     ·have hj:j<n * k2:=by rw [<-hfl'];exact (List.getElem?_eq_some_iff.1 hd).1
      have hjc:j<cs'.size:=by omega
      have hsc:=hs' d (List.mem_of_getElem? hd)
      have hv:=(c3 j cs'[j] (.e d) (by simp [hjc]) (by rw [List.getElem?_map,hd];rfl)).1
      have hcg:cs'.getD j undef=cs'[j]:=by simp [Array.getD,hjc]
      have hrep:(List.replicate (n * k2) ([]:List Nat)).getD j []= []:=by simp [List.getD,List.getElem?_replicate];split <;>rfl
      rw [hcg,hrep]
      cases d with
      | v x=>
       have hv:=rv_e hv
       generalize cs'[j]=c at hv
       cases hv with
       | v hx=>exact .v hx
      | _=>simp [E.sca] at hsc
theorem finv_refl {A:Ar} (hA:A.Ok) {l0 l:List O} {d:D} :A.finv l0 l d l d:=hA.finv _ _ _ _ _ fun _ G _ hi hr=>⟨G,hr,hi,fun _ _ e=>e⟩
def cellE (v:Value):E->E
 | .v x=> .v x
 | _=> .v v
def cells (vs:List Value) (L:List E):List D:=List.zipWith (fun v e=> .e (cellE v e)) vs L
theorem cells_get {vs:List Value} {L:List E} {j:Nat} {v:Value} {e:E} (hv:vs[j]?=some v) (he:L[j]?=some e):(cells vs L)[j]?=some (.e (cellE v e)):=by
 rw [cells,List.getElem?_zipWith,hv,he]
theorem cells_len {vs:List Value} {L:List E} (h:vs.length=L.length):(cells vs L).length=L.length:=by
 rw [cells,List.length_zipWith,h,Nat.min_self]
def trk:E->E
 | .v _=> .v (.bool true)
 | e=>e
theorem trk_sca (e:E):(trk e).sca=e.sca:=by cases e <;>rfl
theorem trk_of {e:E} (h:e.sca=false):trk e=e:=by cases e <;>first | rfl | simp [E.sca] at h
def cG (b:Nat) (v:Value) (bs:List Nat):Gh:=⟨fun _ _=>False,fun _=>b,fun _=>none,fun _=>v,fun _=>bs⟩
theorem two_hp {k i:Nat} {ds:List D} {R:World->Value->List Nat->Prop} :hpF [O.vec true k ds,.res R] i=if i=0 then .vec true k ds else if i=1 then .res R else .dead:=by
 match i with
 | 0=>rfl
 | 1=>rfl
 | i+2=>simp [hpF]
theorem two_inv {w:World} {b k:Nat} {ds:List D} {cs:Array Value} {T:TypeId} {bs:List Nat} {v:Value} {R:World->Value->List Nat->Prop} (hb:w.heap[b]?=some (.cells cs T (0,0))) (hl:ds.length<=cs.size) (hbb:b∉bs) (hlt: ∀x∈bs,x<w.heap.size)
  (hR: ∀w':World,(∀x∈bs,w'.heap[x]?=w.heap[x]?)->R w' v bs)
  (hr: ∀(j:Nat) c d,cs[j]?=some c->ds[j]?=some d->Rv w (cG b v bs) (hpF [.vec true k ds,.res R]) c d/\c.oneCell'=true):Inv w (cG b v bs) (hpF [.vec true k ds,.res R]):=by
 have no: ∀ {j:Nat} {o:O},hpF [O.vec true k ds,.res R] j=o->(∀b k ds,o≠ .vec b k ds)->(∀R,o≠ .res R)->o= .dead:=fun {j o} e h1 h2=>by
  rw [two_hp] at e
  split at e
  ·exact absurd e.symm (h1 _ _ _)
  ·split at e
   ·exact absurd e.symm (h2 _)
   ·exact e.symm
 have lt:b<w.heap.size:=(Array.getElem?_eq_some_iff.1 hb).1
 have z: ∀ {i},(hpF [O.vec true k ds,.res R] i).has=true->i=0:=fun {i} h=>by
  rw [two_hp] at h
  split at h
  ·assumption
  ·split at h <;>cases h
 refine ⟨fun j h=>lt,fun j k h1 h2 _=>(z h1).trans (z h2).symm,fun _ _ p=>p.elim,fun j ds e=>?_,fun j n k e=>?_,fun j b' k' ds' e=>?_,fun j l e=>?_,⟨fun j b e=>(by cases e),fun j k b c e=>(by cases e),fun j m' e k hk=>rfl,fun j k m1 m2 e1 e2=>?_,fun j R' e=>?_⟩⟩
 ·have:=no e (by simp) (by simp);cases this
 ·have:=no e (by simp) (by simp);cases this
 ·rw [two_hp] at e
  split at e
  ·cases e
   exact ⟨fun h=>(by cases h),fun _=>⟨fun o p=>p.elim,cs,T,hb,hl,hr⟩⟩
  ·split at e <;>cases e
 ·have:=no e (by simp) (by simp);cases this
 ·have:=no e1 (by simp) (by simp);cases this
 ·have one: ∀ {i R2},hpF [O.vec true k ds,.res R] i= .res R2->i=1:=fun {i R2} e=>by
   rw [two_hp] at e
   split at e
   ·cases e
   ·split at e
    ·assumption
    ·cases e
  have:=one e
  subst this
  cases e
  exact ⟨hR,fun x hx=>⟨hlt x hx,fun o p=>p.elim,fun j c e=>(by cases e),fun j hj e=>hbb (by have e:b=x:=e;rw [e];exact hx),fun j R' e _=>(one e).symm⟩⟩
theorem markOuter {P:Program} {fn:FuncId} {k:Nat} {i:Nat} {es es':List (List E)} {z z':Int} (hs: ∀j:Nat,(es'.flatten[j]?).map E.sca=(es.flatten[j]?).map E.sca) (hl:es'.length=es.length) (hk': ∀e∈es',e.length=k) (hz:okV (.int .i64 z)=true)
  (h0:es= []->Plain P fn [.e (.sl []),.e (.v (.int .i64 z))] (.e (.v (.int .i64 z'))))
  (h1:0<es.length->(∀e∈es,e.length=k)-> ∀vs:List Value,vs.length=es.flatten.length->
   Proc P fn (fun t=> [.vec (t 0) es.length k,.e (.v (.int .i64 z))]) (fun _=> [.vec true k (cells vs es.flatten),.res (Trees vs (es.flatten.map trk))]) (fun _=> .e (.v (.int .i64 z')))
    (fun _=> [.vec true k (cells vs es'.flatten),.res (Trees vs (es'.flatten.map trk))])) (hk: ∀e∈es,e.length=k):
  MarkC P fn id (.fs i es) (.fs i es') z z':=by
 intro w v bs hnd hlt t
 by_cases he:es= []
 ·subst he
  have he':es'= []:=List.length_eq_zero_iff.1 hl
  subst he'
  obtain ⟨a,cap,rfl,ha⟩:=tree_nil t
  refine (h0 rfl w (pub0 w) _ pub0_inv' rfl fun j x d hx hd=>?_).mono fun en w' ⟨v',d',l',G1,q1,q2,q3,q4,q5⟩=>?_
  ·rcases j with _ | _ | j
   ·cases hx;cases hd;exact .e (.nils ha)
   ·cases hx;cases hd;exact .e (.v hz)
   ·simp at hx
  ·obtain ⟨G2,r1,r2,r3⟩:=q2 w' G1 v' q4 q3
   have x:=r3 _ _ q5
   rw [hpF_nil] at x
   have r1:=rv_e r1
   cases r1 with | v hok=>?_
   exact ⟨q1,hok,x.os,x.tape,x.output,x.size,fun b hb _=>x.others b hb (fun i q=>by simp [O.has] at q) fun i R q=>by simp at q, [],List.nodup_nil,(fun b hb=>(by cases hb)),.nil ha⟩
 ·have hpos:0<es.length:=List.length_pos_iff.2 he
  cases t with
  | nil=>exact absurd rfl he
  | @fs b n cap k2 i es cs T bss hn hc hm hk2 hb hsz hl2 hr=>
   have hkk:k2=k:=by
    obtain ⟨a,r,rfl⟩:=List.exists_cons_of_ne_nil he
    rw [<-hk2 a (by simp),hk a (by simp)]
   subst hkk
   have hfl:es.flatten.length=n * k2:=by rw [flatten_len hk,hn]
   have hfl':es'.flatten.length=n * k2:=by rw [flatten_len hk',hl,hn]
   have hle:n * k2<=cs.size:=Nat.le_trans (Nat.mul_le_mul_right k2 hc) hsz
   obtain ⟨vs,hvs⟩: ∃vs:List Value,vs=(List.range (n * k2)).map fun j=>cs.getD j undef:=⟨_,rfl⟩
   have vget: ∀j,j<n * k2->vs[j]?=some (cs.getD j undef):=fun j hj=>by rw [hvs];simp [hj]
   have vlen:vs.length=es.flatten.length:=by rw [hvs,hfl];simp
   rw [List.nodup_cons] at hnd
   have hR: ∀w':World,(∀x∈bss.flatten,w'.heap[x]?=w.heap[x]?)->Trees vs (es.flatten.map trk) w' (.bool true) bss.flatten:=fun w' hw=>by
    refine ⟨hnd.2,bss,rfl,by rw [List.length_map,hfl,hl2],fun j e hj hse=>?_,fun j u e hu hj hse=>?_⟩
    ·rw [List.getElem?_map] at hj
     obtain ⟨d,h0,rfl⟩:=Option.map_eq_some_iff.1 hj
     rw [trk_sca] at hse
     have ht:=hr j d h0
     cases d <;>first | (simp [E.sca] at hse;done) | skip
     generalize bss.getD j []=bj at ht ⊢
     generalize cs.getD j undef=c at ht
     cases ht;rfl
    ·rw [List.getElem?_map] at hj
     obtain ⟨d,h0,rfl⟩:=Option.map_eq_some_iff.1 hj
     rw [trk_sca] at hse
     rw [trk_of hse]
     have hj2:j<n * k2:=by rw [<-hfl];exact (List.getElem?_eq_some_iff.1 h0).1
     rw [vget j hj2] at hu
     cases hu
     exact (hr j d h0).frame fun b hb=>hw b (mem_getD_flatten hb)
   have inv:Inv w (cG b (.bool true) bss.flatten) (hpF [.vec true k2 (cells vs es.flatten),.res (Trees vs (es.flatten.map trk))]):=two_inv hb (by rw [cells_len vlen,hfl];exact hle) hnd.1 (fun x hx=>hlt x (List.mem_cons_of_mem _ hx)) hR fun j c d hcj hdj=>by
    have hj:j<n * k2:=by
     have:=(List.getElem?_eq_some_iff.1 hdj).1
     rw [cells_len vlen,hfl] at this
     exact this
    have hcg:cs.getD j undef=c:=by
     obtain ⟨hj,e⟩:=Array.getElem?_eq_some_iff.1 hcj
     simp [Array.getD,hj,e]
    have hjl:j<es.flatten.length:=by omega
    have h0:es.flatten[j]?=some es.flatten[j]:=by simp [hjl]
    have ht:=hr j _ h0
    rw [cells_get (vget j hj) h0,hcg] at hdj
    cases hdj
    rw [hcg] at ht
    generalize es.flatten[j]=e0 at ht ⊢
    generalize bss.getD j []=bj at ht
    cases ht with
    | v hx=>exact ⟨.e (.v hx),okV.cell hx⟩
    | nil=>exact ⟨.e (.v rfl),rfl⟩
    | fs=>exact ⟨.e (.v rfl),rfl⟩
   refine ((h1 hpos hk vs vlen).ok w _ _ inv rfl fun j x d hx hd=>?_).mono fun en w' ⟨v',d',l',G1,q1,q2,q3,q4,q5⟩=>?_
   ·rcases j with _ | _ | j
    ·cases hx;cases hd
     show Rv w _ _ _ (.vec 0 es.length k2)
     rw [hn]
     refine Rv.vec (i:=0) (h:=hpF [.vec true k2 (cells vs es.flatten),.res (Trees vs (es.flatten.map trk))]) (by simp [hpF]) hm hc fun b' k' ds' e=>?_
     simp only [id_eq,two_hp,if_true,O.vec.injEq] at e
     obtain ⟨rfl,rfl,rfl⟩:=e
     exact ⟨rfl,by rw [cells_len vlen,hfl];exact Nat.le_refl _,fun h=>(by cases h),fun _=>⟨rfl,cs,T,(0,0),hb,hsz⟩⟩
    ·cases hx;cases hd;exact .e (.v hz)
    ·simp at hx
   ·obtain ⟨G2,r1,r2,r3⟩:=q2 w' G1 v' q4 q3
    have x:=r3 _ _ q5
    have r1:=rv_e r1
    cases r1 with | v hok=>?_
    rcases x.vec 0 true k2 _ rfl with q | ⟨ds',e1,_,g⟩
    ·simp [hpF] at q
    obtain ⟨g1,g2⟩:=g rfl
    have g1:G2.blk 0=b:=g1
    have hlt':b<w'.heap.size:=by rw [<-g1];exact r2.lt 0 (by simp [hpF,O.has])
    obtain ⟨_,cs',T',c1,c2,c3⟩:=(r2.vec 0 _ _ _ rfl).2 rfl
    rw [g1] at c1
    have hsz':cs'.size=cs.size:=by
     have g2:w'.shape? b=w.shape? b:=g2
     rw [shape_size c1,shape_size hb] at g2
     simpa using congrArg (Option.map Prod.snd) g2
    obtain ⟨ra,rc⟩:=r2.x.res 1 _ rfl
    obtain ⟨nd',bss',eb',el',sc',sl'⟩:=ra w' fun _ _=>rfl
    have hbn:b∉bss'.flatten:=fun hb2=>by
     rw [<-eb'] at hb2
     exact (rc b hb2).2.2.2.1 0 (by simp [hpF,O.has]) g1
    refine ⟨q1,hok,x.os,x.tape,x.output,x.size,fun b2 hb2 hn2=>x.others b2 hb2 (fun i q e=>hn2 ?_) (fun i R q hb3=>hn2 ?_),b::bss'.flatten,List.nodup_cons.2 ⟨hbn,by rw [<-eb'];exact nd'⟩,fun b2 hb2=>?_,?_⟩
    ·have e:b=b2:=e
     rw [<-e];exact List.mem_cons_self
    ·exact List.mem_cons_of_mem _ hb3
    ·rcases List.mem_cons.1 hb2 with rfl | hb2
     ·exact ⟨hlt',.inl List.mem_cons_self⟩
     ·rw [<-eb'] at hb2
      refine ⟨(rc b2 hb2).1,?_⟩
      rcases x.rbnew 1 _ rfl b2 hb2 with ⟨j,R',_,q⟩ | q
      ·exact .inl (List.mem_cons_of_mem _ q)
      ·exact .inr q
    ·refine TreeAt.fs (w:=w') (i:=i) (cap:=cap) bss' (hl.trans hn) hc hm hk' c1 (by omega) (by rw [el',List.length_map,hfl']) fun j d hd=>?_
     have hj:j<n * k2:=by rw [<-hfl'];exact (List.getElem?_eq_some_iff.1 hd).1
     have hjc:j<cs'.size:=by omega
     have hcg:cs'.getD j undef=cs'[j]:=by simp [Array.getD,hjc]
     have hv:=rv_e (c3 j cs'[j] _ (by simp [hjc]) (cells_get (vget j hj) hd)).1
     have htd:(es'.flatten.map trk)[j]?=some (trk d):=by rw [List.getElem?_map,hd];rfl
     rw [hcg]
     cases hsd:d.sca with
     | true=>
      rw [sc' j _ htd (by rw [trk_sca];exact hsd)]
      cases d <;>first | (simp [E.sca] at hsd;done) | skip
      generalize cs'[j]=c at hv
      cases hv with | v hx=>exact .v hx
     | false=>
      have t2:=sl' j _ _ (vget j hj) htd (by rw [trk_sca];exact hsd)
      rw [trk_of hsd] at t2
      have hcd:cellE (cs.getD j undef) d= .v (cs.getD j undef):=by cases d <;>first | rfl | (simp [E.sca] at hsd;done)
      rw [hcd] at hv
      generalize cs'[j]=c at hv
      cases hv
      exact t2
theorem one_hp {i:Nat} {R:World->Value->List Nat->Prop} :hpF [O.res R] i=if i=0 then .res R else .dead:=by
 cases i <;>simp [hpF]
theorem res_inv {w:World} {bs:List Nat} {v:Value} {R:World->Value->List Nat->Prop} (hlt: ∀x∈bs,x<w.heap.size) (hR: ∀w':World,(∀x∈bs,w'.heap[x]?=w.heap[x]?)->R w' v bs):Inv w (cG 0 v bs) (hpF [.res R]):=by
 have nh: ∀j,(hpF [O.res R] j).has=false:=fun j=>by rw [one_hp];split <;>rfl
 have no: ∀ {j:Nat} {o:O},hpF [O.res R] j=o->(∀R,o≠ .res R)->o= .dead:=fun {j o} e h1=>by
  rw [one_hp] at e
  split at e
  ·exact absurd e.symm (h1 _)
  ·exact e.symm
 refine ⟨fun j h=>?_,fun j k h=>?_,fun _ _ p=>p.elim,fun j ds e=>?_,fun j n k e=>?_,fun j b k ds e=>?_,fun j l e=>?_,⟨fun j b e=>(by cases e),fun j k b c e=>(by cases e),fun j m' e k hk=>rfl,fun j k m1 m2 e1 e2=>?_,fun j R' e=>?_⟩⟩
 ·rw [nh] at h;cases h
 ·rw [nh] at h;cases h
 ·have:=no e (by simp);cases this
 ·have:=no e (by simp);cases this
 ·have:=no e (by simp);cases this
 ·have:=no e (by simp);cases this
 ·have:=no e1 (by simp);cases this
 ·have one: ∀ {i R2},hpF [O.res R] i= .res R2->i=0:=fun {i R2} e=>by
   rw [one_hp] at e
   split at e
   ·assumption
   ·cases e
  have:=one e
  subst this
  cases e
  exact ⟨hR,fun x hx=>⟨hlt x hx,fun o p=>p.elim,fun j c e=>(by cases e),fun j hj=>(by rw [nh] at hj;cases hj),fun j R' e _=>(one e).symm⟩⟩
theorem markStruct {P:Program} {fn:FuncId} {sh:Value->Value} {e e':E} {z z':Int} {d:RF->D} (hz:okV (.int .i64 z)=true) (hd: ∀(w:World) (G:Gh) (h:Hp),Rv w G h (G.rv 0) (.rv 0)->Rv w G h (sh (G.rv 0)) (d id))
  (h1:Proc P fn (fun t=> [d t,.e (.v (.int .i64 z))]) (fun _=> [.res (Tree e)]) (fun _=> .e (.v (.int .i64 z'))) (fun _=> [.res (Tree e')])):MarkC P fn sh e e' z z':=by
 intro w v bs hnd hlt t
 have inv:Inv w (cG 0 v bs) (hpF [.res (Tree e)]):=res_inv hlt fun w' hw=>⟨hnd,t.frame hw⟩
 refine (h1.ok w _ _ inv rfl fun j x d hx hd2=>?_).mono fun en w' ⟨v',d',l',G1,q1,q2,q3,q4,q5⟩=>?_
 ·rcases j with _ | _ | j
  ·cases hx;cases hd2
   exact hd w (cG 0 v bs) (hpF [.res (Tree e)]) (Rv.rv (R:=Tree e) rfl t.cell)
  ·cases hx;cases hd2;exact .e (.v hz)
  ·simp at hx
 ·obtain ⟨G2,r1,r2,r3⟩:=q2 w' G1 v' q4 q3
  have x:=r3 _ _ q5
  have r1:=rv_e r1
  cases r1 with | v hok=>?_
  obtain ⟨_,hrv⟩:=x.rvm 0 _ rfl
  have hrv:G2.rv 0=v:=hrv
  obtain ⟨ra,rc⟩:=r2.x.res 0 _ rfl
  obtain ⟨nd',t'⟩:=ra w' fun _ _=>rfl
  rw [hrv] at t'
  refine ⟨q1,hok,x.os,x.tape,x.output,x.size,fun b2 hb2 hn2=>x.others b2 hb2 (fun i q e=>?_) (fun i R q hb3=>hn2 hb3),G2.rb 0,nd',fun b2 hb2=>⟨(rc b2 hb2).1,?_⟩,t'⟩
  ·simp only [id_eq,one_hp] at q
   split at q <;>cases q
  ·rcases x.rbnew 0 _ rfl b2 hb2 with ⟨j,R',_,q⟩ | q
   ·exact .inl q
   ·exact .inr q
end Go.Proofs.YtfplalbognalkaaGreat.Ab
/- What is handed back in structs and tuples; empty slices, nil or not; cells taken for less. -/
namespace Go.Proofs.YtfplalbognalkaaGreat.Ab
open Go
def Plc (x y d0 d1:D):Prop:= ∀(w:World) (G:Gh) (h:Hp) (v:Value),Rv w G h v d0-> ∃u,Rv w G h u x/\ ∀(w2:World) (G2:Gh) (h2:Hp),Rv w2 G2 h2 u y->Rv w2 G2 h2 v d1
theorem Plc.refl {x y:D} :Plc x y x y:=fun _ _ _ v r=>⟨v,r,fun _ _ _ r=>r⟩
theorem Plc.agg {x y d0 d1:D} {ds:List D} (s:Plc x y d0 d1) (hs:scs ds=true):Plc x y (.agg (d0::ds)) (.agg (d1::ds)):=fun w G h v r=>by
 cases r with
 | @agg cs _ hl h1 hr=>
  have h0:0<cs.size:=by rw [hl];simp
  obtain ⟨u,q1,q2⟩:=s w G h cs[0] (hr 0 cs[0] d0 (by simp [h0]) rfl)
  refine ⟨u,q1,fun w2 G2 h2 r2=> .agg (by simpa using hl) h1 fun j c d hc hd=>?_⟩
  cases j with
  | zero=>
   simp at hd
   subst hd
   have:cs[0]=c:=by simpa [h0] using hc
   rw [<-this]
   exact q2 w2 G2 h2 r2
  | succ j=>exact (hr (j+1) c d hc (by simpa using hd)).sc (scs_get hs (by simpa using hd))
theorem Plc.tup {x y d0 d1:D} {ds:List D} (s:Plc x y d0 d1) (hs:scs ds=true):Plc x y (.tup (d0::ds)) (.tup (d1::ds)):=fun w G h v r=>by
 cases r with
 | @tup cs _ hl hr=>
  have h0:0<cs.size:=by rw [hl];simp
  obtain ⟨u,q1,q2⟩:=s w G h cs[0] (hr 0 cs[0] d0 (by simp [h0]) rfl)
  refine ⟨u,q1,fun w2 G2 h2 r2=> .tup (by simpa using hl) fun j c d hc hd=>?_⟩
  cases j with
  | zero=>
   simp at hd
   subst hd
   have:cs[0]=c:=by simpa [h0] using hc
   rw [<-this]
   exact q2 w2 G2 h2 r2
  | succ j=>exact (hr (j+1) c d hc (by simpa using hd)).sc (scs_get hs (by simpa using hd))
theorem FinV.ctx {l0 l' l:List O} {x y d' d:D} (h:FinV l0 l' x l y) (c:Plc x y d' d):FinV l0 l' d' l d:=fun w G v hi hr=>by
 obtain ⟨u,ru,back⟩:=c w G _ v hr
 obtain ⟨G',r',i',e'⟩:=h w G u hi ru
 exact ⟨G',back _ _ _ r',i',e'⟩
theorem finv_zsFs {l:List O} {m0 m m' t i:Nat} (ht:hpF l t= .ids m) (hm:m<=m'):FinV [.ids m0] l .zs [.ids m'] (.e (.fs i [])):=fun w G v hi hr=>by
 obtain ⟨i1,x1⟩:=tok_out (m0:=m0) (m1:=m') hi ht hm
 cases hr with
 | zs ha=>exact ⟨G,.e (.fnils fun _=>rfl),i1,x1⟩
theorem CallOK.nil {P:Program} {fn:FuncId} {az:List D} {l0:List O} {R:D->List O->Prop} (h1:CallOK P fn (.e (.v (.slice none 0 0))::az) l0 R) (h2:CallOK P fn (.e0::az) l0 R):CallOK P fn (.e (.sl [])::az) l0 R:=fun w G vs hi hs hr=>by
 have h0:0<vs.size:=by rw [hs];simp
 have hr0:=rv_e (hr 0 vs[0] (.e (.sl [])) (by simp [h0]) rfl)
 have rest: ∀ {d:D},Rv w G (hpF l0) vs[0] d-> ∀(j:Nat) v x,vs[j]?=some v->(d::az)[j]?=some x->Rv w G (hpF l0) v x:=fun {d} r j v x hv hx=>by
  cases j with
  | zero=>
   simp at hx
   subst hx
   have:vs[0]=v:=by simpa [h0] using hv
   rw [<-this];exact r
  | succ j=>exact hr (j+1) v x hv (by simpa using hx)
 have e0: ∃a cap,vs[0]= .slice a 0 cap/\(a=none->cap=0):=by
  generalize vs[0]=u at hr0
  cases hr0 with
  | nils h=>exact ⟨_,_,rfl,h⟩
  | sl u hn hc hm hk hp hr=>simp at hn;subst hn;exact ⟨_,_,rfl,fun h=>by cases h⟩
 obtain ⟨a,cap,e,ha⟩:=e0
 cases a with
 | none=>
  rw [ha rfl] at e
  exact h1 w G vs hi (by simpa using hs) (rest (by rw [e];exact .e (.v rfl)))
 | some a=>exact h2 w G vs hi (by simpa using hs) (rest (by rw [e];exact .e0))
theorem sub_zs {i:Nat} :Sub .zs (.e (.fs i [])):=fun _ _ _ _ r=>by
 cases r with | zs ha=>exact .e (.fnils fun _=>rfl)
theorem Sub.refl {d:D} :Sub d d:=fun _ _ _ _ r=>r
end Go.Proofs.YtfplalbognalkaaGreat.Ab
/- Cells of a box, taken for less; an empty slice in a box that is appended to. -/
namespace Go.Proofs.YtfplalbognalkaaGreat.Ab
open Go
theorem Plc.sub {x y d0 d1:D} (p:Plc x y d0 d1) (s:Sub x y):Sub d0 d1:=fun w G h v r=>by
 obtain ⟨u,r1,back⟩:=p w G h v r
 exact back _ _ _ (s _ _ _ _ r1)
theorem callOf {Q:Program} (hm:Q.follows .mixedOrders=true) {fn:FuncId} {f:F} {args:List D} {l0:List O} {d:D} {l:List O} (hf:prepF Q fn=some f)
  (h: ∀(A:Ar) (P:Program),A.Ok->P=Q->goF A P f args l0 fun d' l'=>A.finv l0 l' d' l d):CallOK Q fn args l0 fun d' l'=>FinV l0 l' d' l d:=callOK hm hf (h Ar.std Q Ar.std_ok rfl)
end Go.Proofs.YtfplalbognalkaaGreat.Ab
/- A slice that stands in a cell gets a number. -/
namespace Go.Proofs.YtfplalbognalkaaGreat.Ab
open Go
end Go.Proofs.YtfplalbognalkaaGreat.Ab
/- A call that is handed a slice with a number, made of one that was written in place. -/
namespace Go.Proofs.YtfplalbognalkaaGreat.Ab
open Go
theorem seal_slot {w:World} {G:Gh} {h h':Hp} {t m i n k:Nat} {b:Bool} {ds:List D} {es:List (List E)} (hi:Inv w G h) (ht:h t= .ids m) (hv:h i= .vec b k ds)
  (hn:es.length=n) (hds:ds.take (n * k)=es.flatten.map .e) (hk: ∀e∈es,e.length=k)
  (hh: ∀j,h' j=if j=t then .ids (m+1) else if j=i then .gone else h j): ∃G',Inv w G' h'/\Ext w G h w G' h'/\ ∀c,Rv w G h c (.vec i n k)->RvE w G' c (.fs m es):=by
 have hti:t≠i:=fun e=>by rw [e,hv] at ht;cases ht
 have ht':h' t= .ids (m+1):=by rw [hh,if_pos rfl]
 have hi':h' i= .gone:=by rw [hh,if_neg (Ne.symm hti),if_pos rfl]
 have oth: ∀ {j},j≠t->j≠i->h' j=h j:=fun {j} a b=>by rw [hh,if_neg a,if_neg b]
 have same: ∀ {j o},h j=o->(∀m,o≠ .ids m)->(∀b k ds,o≠ .vec b k ds)->h' j=o:=fun {j o} e q1 q2=>by
  rw [oth (fun q=>by subst q;rw [ht] at e;exact q1 _ e.symm) (fun q=>by subst q;rw [hv] at e;exact q2 _ _ _ e.symm)]
  exact e
 have back: ∀ {j o},h' j=o->(∀m,o≠ .ids m)->(∀b k ds,o≠ .vec b k ds)->o≠ .gone->h j=o:=fun {j o} e q1 q2 q3=>by
  rw [<-oth (fun q=>by subst q;rw [ht'] at e;exact q1 _ e.symm) (fun q=>by subst q;rw [hi'] at e;exact q3 e.symm)]
  exact e
 have has: ∀ {j},(h' j).has=true->j≠i/\(h j).has=true:=fun {j} e=>by
  by_cases q1:j=i
  ·subst q1;rw [hi'] at e;cases e
  ·refine ⟨q1,?_⟩
   by_cases q2:j=t
   ·subst q2;rw [ht'] at e;cases e
   ·rw [<-oth q2 q1];exact e
 have ids: ∀ {j q},h' j= .ids q->j=t/\q=m+1:=fun {j q} e=>by
  by_cases q2:j=t
  ·subst q2;rw [ht'] at e;cases e;exact ⟨rfl,rfl⟩
  ·by_cases q1:j=i
   ·subst q1;rw [hi'] at e;cases e
   ·rw [oth q2 q1] at e
    exact absurd (hi.x.idu j t _ _ e ht) q2
 obtain ⟨G',hG,hblk,hrv,hrb,hpub,hsg,hsgm⟩: ∃G':Gh,((b=true/\G'.pub=(fun x o=>G.pub x o\/(x=G.blk i/\o<n * k))/\(∃cs T,w.heap[G.blk i]?=some (.cells cs T (0,0))/\G'.sg m=some (G.blk i,cs.size)))\/(b=false/\G'=G))/\G'.blk=G.blk/\G'.rv=G.rv/\G'.rb=G.rb/\
   (∀x o,G'.pub x o->G.pub x o\/(b=true/\x=G.blk i/\o<n * k))/\(∀j c,G'.sg j=some c->G.sg j=some c\/(b=true/\j=m/\c.1=G.blk i/\ ∃cs T,w.heap[G.blk i]?=some (.cells cs T (0,0))/\c.2=cs.size))/\ ∀j c,G.sg j=some c->G'.sg j=some c:=by
  cases b with
  | true=>
   obtain ⟨_,cs,T,hcs,_⟩:=(hi.vec i _ _ _ hv).2 rfl
   refine ⟨G.seal (G.blk i) (n * k) m cs.size,.inl ⟨rfl,rfl,cs,T,hcs,if_pos rfl⟩,rfl,rfl,rfl,fun x o p=>?_,fun j c e=>?_,fun j c e=>?_⟩
   ·rcases p with p | p
    ·exact .inl p
    ·exact .inr ⟨rfl,p⟩
   ·have e:(if j=m then some (G.blk i,cs.size) else G.sg j)=some c:=e
    split at e
    ·cases e;exact .inr ⟨rfl,by assumption,rfl,cs,T,hcs,rfl⟩
    ·exact .inl e
   ·show (if j=m then _ else _)=_
    rw [if_neg (fun q=>by rw [hi.x.ids t m ht j (by omega)] at e;cases e)]
    exact e
  | false=>exact ⟨G,.inr ⟨rfl,rfl⟩,rfl,rfl,rfl,fun _ _ p=> .inl p,fun _ _ e=> .inl e,fun _ _ e=>e⟩
 have hhas:b=true->(h i).has=true:=fun e=>by rw [hv];exact e
 have pm: ∀x o,G.pub x o->G'.pub x o:=fun x o p=>by
  rcases hG with ⟨_,e,_⟩ | ⟨_,e⟩
  ·rw [e];exact .inl p
  ·rw [e];exact p
 have ext:Ext w G h w G' h':= {
  os:=rfl
  tape:=rfl
  output:=rfl
  size:=Nat.le_refl _
  pub:=fun x o p=>⟨pm x o p,rfl⟩
  box:=fun j ds e=>⟨⟨ds,same e (by simp) (by simp),rfl⟩,by rw [hblk]⟩
  tok:=fun j n k e=>⟨n,same e (by simp) (by simp),Nat.le_refl _,fun _ _=>⟨by rw [hblk],rfl⟩⟩
  others:=fun _ _ _ _=>rfl
  new:=fun j e=> .inl ⟨j,(has e).2,by rw [hblk]⟩
  pubnew:=fun x o p=>by
   rcases hpub x o p with p | ⟨e,rfl,_⟩
   ·exact .inl p
   ·exact .inr (.inr ⟨i,hhas e,rfl⟩)
  vec:=fun j b2 k2 ds2 e=>by
   by_cases q1:j=i
   ·exact .inl (by rw [q1];exact hi')
   ·exact .inr ⟨ds2,by rw [oth (fun q=>by subst q;rw [ht] at e;cases e) q1];exact e,Nat.le_refl _,fun _=>⟨by rw [hblk],rfl⟩⟩
  gone:=fun j e=>same e (by simp) (by simp)
  smap:=fun j l e=>⟨⟨l,same e (by simp) (by simp)⟩,by rw [hblk]⟩
  sgm:=hsgm
  idm:=fun j q e=>⟨m+1,by rw [hi.x.idu j t _ _ e ht];exact ht'⟩
  rvm:=fun j R e=>⟨⟨R,same e (by simp) (by simp)⟩,by rw [hrv]⟩
  rbnew:=fun j R e x hx=> .inl ⟨j,R,back e (by simp) (by simp) (by simp),by rw [<-hrb];exact hx⟩
  idn:=fun _ _ _=>⟨t,m,ht⟩
  sgn:=fun q=>absurd ht (q t m)
  sgw:=fun j c e=>by
   rcases hsg j c e with e | ⟨e1,_,e2,_⟩
   ·exact .inl e
   ·exact .inr (.inr ⟨i,hhas e1,e2.symm⟩)}
 have npub: ∀ {j},j≠i->(h j).has=true-> ∀o,G'.pub (G.blk j) o->G.pub (G.blk j) o:=fun {j} q e o p=>by
  rcases hpub _ _ p with p | ⟨e1,e2,_⟩
  ·exact p
  ·exact absurd (hi.inj j i e (hhas e1) e2) q
 have cell: ∀ {c:Value},Rv w G h c (.vec i n k)->RvE w G' c (.fs m es):=fun {c} r=>by
  obtain ⟨a,cap,rfl,_,hm,hnc,hvo⟩:=rv_vec r
  obtain ⟨_,hlen,hff,htt⟩:=hvo _ _ _ hv
  rcases hG with ⟨hb,hp,cs,T,hcs,hs⟩ | ⟨hb,_⟩
  ·subst hb
   obtain ⟨rfl,cs2,T2,fr2,hcs2,hcap⟩:=htt rfl
   have hcap:cap * k<=cs.size:=by rw [hcs] at hcs2;cases hcs2;exact hcap
   obtain ⟨uu,hu1,hu2⟩:=vec_cells hi hv
   have hfl:es.flatten.length=n * k:=by rw [flatten_len hk,hn]
   refine .fs (k:=k) (z:=cs.size) uu hs hcap hn hnc hm hk (fun j hj=>?_) (fun j d hd=>?_)
   ·rw [Nat.zero_add]
    exact ⟨by rw [hp];exact .inr ⟨rfl,hj⟩,hu1 j (by omega)⟩
   ·have hjl:j<n * k:=by rw [<-hfl];exact (List.getElem?_eq_some_iff.1 hd).1
    exact (rv_e (hu2 j (.e d) (take_get hds hd hjl)).1).mono ext.pub ext.sgm
  ·subst hb
   obtain ⟨rfl,rfl,_⟩:=hff rfl
   have:es= []:=List.length_eq_zero_iff.1 hn
   subst this
   exact .fnils fun _=>rfl
 refine ⟨G',⟨fun j e=>by rw [hblk];exact hi.lt j (has e).2,fun a c e1 e2 e3=>hi.inj a c (has e1).2 (has e2).2 (by rw [hblk] at e3;exact e3),fun x o p=>?_,fun j ds e=>?_,fun j n k e hn0=>?_,fun j b2 k2 ds2 e=>?_,fun j l e=>?_,
  ⟨fun j c e=>?_,fun j q c c' e1 e2 e3=>?_,fun j q e a ha=>?_,fun j q a a' e1 e2=>(ids e1).1.trans (ids e2).1.symm,fun j R e=>?_⟩⟩,ext,fun _ r=>cell r⟩
 ·rcases hpub x o p with p | ⟨e,rfl,_⟩
  ·exact hi.publt x o p
  ·exact hi.lt i (hhas e)
 ·have e0:=back e (by simp) (by simp) (by simp)
  obtain ⟨a1,cs,T,a2,a3,a4⟩:=hi.box j ds e0
  have hj':=has (j:=j) (by rw [e];rfl)
  rw [hblk]
  exact ⟨fun o p=>a1 o (npub hj'.1 hj'.2 o p),cs,T,a2,a3,fun q c d hc hd=>⟨(a4 q c d hc hd).1.ext ext,(a4 q c d hc hd).2⟩⟩
 ·have e0:=back e (by simp) (by simp) (by simp)
  obtain ⟨a1,a2⟩:=hi.front j n k e0 hn0
  have hj':=has (j:=j) (by rw [e];simp [O.has,hn0])
  rw [hblk]
  exact ⟨a1,fun o ho p=>a2 o ho (npub hj'.1 hj'.2 o p)⟩
 ·have q1:j≠i:=fun q=>by subst q;rw [hi'] at e;cases e
  have q2:j≠t:=fun q=>by subst q;rw [ht'] at e;cases e
  rw [oth q2 q1] at e
  obtain ⟨a0,a⟩:=hi.vec j b2 k2 ds2 e
  refine ⟨a0,fun hb=>?_⟩
  obtain ⟨a1,cs,T,a2,a3,a4⟩:=a hb
  rw [hblk]
  exact ⟨fun o p=>a1 o (npub q1 (by rw [e];exact hb) o p),cs,T,a2,a3,fun q c d hc hd=>⟨(a4 q c d hc hd).1.ext ext,(a4 q c d hc hd).2⟩⟩
 ·have e0:=back e (by simp) (by simp) (by simp)
  obtain ⟨a1,es2,ck,a2,a3,a4⟩:=hi.smap j l e0
  have hj':=has (j:=j) (by rw [e];rfl)
  rw [hblk]
  exact ⟨fun o p=>a1 o (npub hj'.1 hj'.2 o p),es2,ck,a2,a3,fun q e p a b=>⟨(a4 q e p a b).1,(a4 q e p a b).2.mono ext.pub ext.sgm⟩⟩
 ·rw [hblk]
  rcases hsg j c e with e | ⟨e1,_,e2,cs,T,e3,e4⟩
  ·obtain ⟨a,b',c'⟩:=hi.x.sgs j c e
   exact ⟨a,fun q hq=>b' q (has hq).2,c'⟩
  ·rw [e2,e4]
   exact ⟨hi.lt i (hhas e1),fun q hq e5=>(has hq).1 (hi.inj q i (has hq).2 (hhas e1) e5),cs,T,e3,Nat.le_refl _⟩
 ·rcases hsg j c e1 with a | ⟨a1,a2,a3,_⟩ <;>rcases hsg q c' e2 with a' | ⟨a1',a2',a3',_⟩
  ·exact hi.x.sgi j q c c' a a' e3
  ·exact absurd (a3'.symm.trans e3.symm) ((hi.x.sgs j c a).2.1 i (hhas a1'))
  ·exact absurd (a3.symm.trans e3) ((hi.x.sgs q c' a').2.1 i (hhas a1))
  ·omega
 ·obtain ⟨_,rfl⟩:=ids e
  cases hq:G'.sg a with
  | none=>rfl
  | some c=>
   rcases hsg a c hq with q | ⟨_,q,_⟩
   ·rw [hi.x.ids t m ht a (by omega)] at q;cases q
   ·omega
 ·have e0:=back e (by simp) (by simp) (by simp)
  obtain ⟨a,c⟩:=hi.x.res j R e0
  rw [hrv,hrb]
  refine ⟨a,fun x hx=>?_⟩
  obtain ⟨c1,c2,c3,c4,c5⟩:=c x hx
  refine ⟨c1,fun o p=>?_,fun q c' eq=>?_,fun q hq=>by rw [hblk];exact c4 q (has hq).2,fun q R' eq=>c5 q R' (back eq (by simp) (by simp) (by simp))⟩
  ·rcases hpub x o p with p | ⟨e1,e2,_⟩
   ·exact c2 o p
   ·exact c4 i (hhas e1) e2.symm
  ·rcases hsg q c' eq with eq | ⟨e1,_,e2,_⟩
   ·exact c3 q c' eq
   ·rw [e2];exact c4 i (hhas e1)
def SealTo (i n k m:Nat) (es:List (List E)) (d d':D):Prop:= ∀(w:World) (G G':Gh) (h h':Hp),Ext w G h w G' h'->(∀c,Rv w G h c (.vec i n k)->RvE w G' c (.fs m es))-> ∀v,Rv w G h v d->Rv w G' h' v d'
theorem SealTo.refl {i n k m:Nat} {es:List (List E)} {d:D} :SealTo i n k m es d d:=fun _ _ _ _ _ x _ _ r=>r.ext x
theorem SealTo.vec {i n k m:Nat} {es:List (List E)} :SealTo i n k m es (.vec i n k) (.e (.fs m es)):=fun _ _ _ _ _ _ c _ r=> .e (c _ r)
theorem SealTo.sub {i n k m:Nat} {es:List (List E)} {d d':D} (s:Sub d d'):SealTo i n k m es d d':=fun _ _ _ _ _ x _ _ r=>s _ _ _ _ (r.ext x)
def SealTos (i n k m:Nat) (es:List (List E)):List D->List D->Prop
 | [], []=>True
 | d::r,d'::r'=>SealTo i n k m es d d'/\SealTos i n k m es r r'
 | _,_=>False
theorem SealTos.len {i n k m:Nat} {es:List (List E)} : ∀ {a b:List D},SealTos i n k m es a b->a.length=b.length
 | [], [],_=>rfl
 | _::_,_::_,h=>by simp [SealTos.len h.2]
 | [],_::_,h=>h.elim
 | _::_, [],h=>h.elim
theorem SealTos.get {i n k m:Nat} {es:List (List E)} : ∀ {a b:List D} {j:Nat} {d':D},SealTos i n k m es a b->b[j]?=some d'-> ∃d,a[j]?=some d/\SealTo i n k m es d d'
 | [], [],_,_,_,h=>by simp at h
 | x::r,y::r',0,d',h,hd=>by simp at hd;subst hd;exact ⟨x,rfl,h.1⟩
 | x::r,y::r',j+1,d',h,hd=>by
  obtain ⟨d,h1,h2⟩:=SealTos.get h.2 (by simpa using hd)
  exact ⟨d,by simpa using h1,h2⟩
 | [],_::_,_,_,h,_=>h.elim
 | _::_, [],_,_,h,_=>h.elim
theorem SealTo.agg {i n k m:Nat} {es:List (List E)} {a b:List D} (s:SealTos i n k m es a b):SealTo i n k m es (.agg a) (.agg b):=fun w G G' h h' x c v r=>by
 cases r with
 | agg hl h1 hr=>
  refine .agg (hl.trans s.len) h1 fun j c' d' hc hd=>?_
  obtain ⟨d,e1,e2⟩:=s.get hd
  exact e2 w G G' h h' x c c' (hr j c' d hc e1)
theorem find_skip {l:List (Nat×O)} {i:Nat} {o:O} {j:Nat} (h:j≠i):((i,o)::l).find? (·.1==j)=l.find? (·.1==j):=by
 rw [List.find?_cons]
 have:((i,o).1==j)=false:=by simpa using fun q=>h q.symm
 rw [this]
theorem callK_seal {A:Ar} (hA:A.Ok) {P Q:Program} (e:P=Q) {hp:Hp} {f:Nat} {g:Bool} {fn:FuncId} {ds:List D} {o:Prop} {K:Prop->Eff->Prop} {args:RF->List D} {l0:RF->List O} {d:RF->D} {l:RF->List O} (L:List Nat)
  {t i n k m:Nat} {b:Bool} {cs:List D} (es:List (List E)) (ht:hp t= .ids m) (hv:hp i= .vec b k cs)
  (hn:(ndB (t::i::L)&&(t::i::L).all (· <f))=true) (hpre:hpAll hp L (l0 (num L f)))
  (hes:es.length=n) (hcs:cs.take (n * k)=es.flatten.map .e) (hk: ∀e∈es,e.length=k) (hs:SealTos i n k m es ds (args (num L f)))
  (hK:K o {d:=some (d (num L f)),al:=(l (num L f)).drop L.length,wr:=(t,.ids (m+1))::(i,.gone)::L.zip ((l (num L f)).take L.length),tc:=t::i::L})
  (h:Proc Q fn args l0 d l):A.call P hp f false g fn ds o K:=by
 have sd:=h.side
 have hL:L.length=(l0 id).length:=by rw [hpAll_len hpre,sd.r0,List.length_map]
 have hz:(L.zip (l0 (num L f))).map (·.1)=L:=by rw [List.map_fst_zip];rw [<-hpAll_len hpre];exact Nat.le_refl _
 have hn0:=hn
 simp only [ndB,Bool.and_eq_true,List.all_eq_true,decide_eq_true_eq,List.contains_cons,Bool.not_eq_true',Bool.or_eq_false_iff,List.mem_cons,List.contains_eq_mem,decide_eq_false_iff_not,beq_eq_false_iff_ne,ne_eq] at hn
 obtain ⟨⟨n0,n3,n4⟩,n5⟩:=hn
 have n1:t≠i/\t∉L:=⟨fun q=>n0 (.inl q),fun q=>n0 (.inr q)⟩
 have hlt: ∀x∈L,x<f:=fun x hx=>n5 x (.inr (.inr hx))
 refine hA.call _ _ _ _ _ _ _ _ _ ⟨ds,(t,.ids m)::(i,.vec b k cs)::L.zip (l0 (num L f)),{d:=some (d (num L f)),al:=(l (num L f)).drop L.length,wr:=(t,.ids (m+1))::(i,.gone)::L.zip ((l (num L f)).take L.length),tc:=t::i::L},Wks.refl _,fun hg ho=>?_,fun j q hq=>?_,fun h=>(by cases h),fun x hx=>?_,?_,d (num L f),rfl,by simpa using hK⟩
 ·subst e
  intro w G hh h' vs hi hp' hal hh' hsz hr
  obtain ⟨G1,i1,x1,c1⟩:=seal_slot (h':=fun j=>if j=t then .ids (m+1) else if j=i then .gone else hh j) hi (hp' t (.ids m) (by simp)) (hp' i (.vec b k cs) (by simp)) hes hcs hk fun j=>rfl
  have hft: ∀j,f<=j->j≠t/\j≠i:=fun j hj=>⟨fun q=>by have:=n5 t (.inl rfl);omega,fun q=>by have:=n5 i (.inr (.inl rfl));omega⟩
  have:=h.callE hL n4 hlt w G1 (fun j=>if j=t then .ids (m+1) else if j=i then .gone else hh j) h' vs i1 (fun j q hq=>?_) (fun j hj=>?_) (fun j=>?_) (by rw [hsz,hs.len]) (fun j v x hv hx=>?_)
  ·refine this.mono fun e w' ⟨v,d',G',q1,q2,q3,q4,q5⟩=>⟨v,d',G',q1,q2,q3,q4,x1.trans q5⟩
  ·have hj:j∈L:=(List.of_mem_zip hq).1
   show (if j=t then _ else if j=i then _ else _)=q
   rw [if_neg (fun q=>n1.2 (by rw [<-q];exact hj)),if_neg (fun q=>n3 (by rw [<-q];exact hj))]
   exact hp' j q (by simp [hq])
  ·have:=hft (f+j) (by omega)
   show (if f+j=t then _ else if f+j=i then _ else _)=O.dead
   rw [if_neg this.1,if_neg this.2]
   exact hal j hj
  ·rw [hh' j]
   simp only
   split
   ·rfl
   ·by_cases qt:j=t
    ·subst qt
     rw [find_zip_none (fun h=>n1.2 h)]
     simp
    ·by_cases qi:j=i
     ·subst qi
      rw [find_skip qt,find_zip_none (fun h=>n3 h)]
      simp [qt]
     ·rw [find_skip qt,find_skip qi,if_neg qt,if_neg qi]
  ·obtain ⟨d0,e1,e2⟩:=hs.get hx
   exact e2 w G G1 hh _ x1 c1 v (hr j v d0 hv e1)
 ·simp only [List.mem_cons,Prod.mk.injEq] at hq
  rcases hq with ⟨rfl,rfl⟩ | ⟨rfl,rfl⟩ | hq
  ·exact ht
  ·exact hv
  ·exact hpAll_mem hpre j q hq
 ·simp only [List.map_cons,hz,List.mem_cons]
  simp only [List.mem_cons] at hx
  rcases hx with rfl | rfl | hx
  ·exact .inl rfl
  ·exact .inr (.inl rfl)
  ·exact .inr (.inr (List.of_mem_zip (show (x.1,x.2)∈_ from hx)).1)
 ·simp only [List.map_cons,hz]
theorem rvE_sl {w:World} {G:Gh} {v:Value} {es:List (List E)} (h:RvE w G v (.sl es)) (h0:0<es.length): ∃(b off cap k:Nat) (u:Nat->Value),v= .slice (some ⟨b,off,none⟩) es.length cap/\es.length<=cap/\es.length<=maxN/\(∀e∈es,e.length=k)/\
  (∀j,j<es.length * k->G.pub b (off+j)/\w.cell? ⟨b,off+j,none⟩=some (u j))/\ ∀j d,es.flatten[j]?=some d->RvE w G (u j) d:=by
 cases h with
 | nils _=>simp at h0
 | sl u hn hc hm hk hp hr=>subst hn;exact ⟨_,_,_,_,u,rfl,hc,hm,hk,hp,hr⟩
theorem finv_ownFs {l:List O} {m0 m t i k:Nat} {es:List (List E)} (ht:hpF l t= .ids m) (hb:hpF l i= .front es.length k) (hk: ∀e∈es,e.length=k):
  FinV [.ids m0] l (.own i es) [.ids (m+1)] (.e (.fs m es)):=by
 intro w G v hi hr
 cases hr with
 | own hx hk' ht'=>
  obtain ⟨N,hN,hle,htok⟩:=ht'
  rw [hb] at hN
  cases hN
  rcases htok rfl with ⟨h0,a,rfl,ha⟩ | ⟨h0,cap,cs,T,fr,rfl,hcs,hcap⟩
  ·have:es= []:=List.length_eq_zero_iff.1 h0
   subst this
   obtain ⟨i1,x1⟩:=tok_out (m0:=m0) (m1:=m+1) hi ht (by omega)
   exact ⟨G,.e (.fnils fun _=>rfl),i1,x1⟩
  ·obtain ⟨⟨cs2,T2,hcs2⟩,_⟩:=hi.front i _ _ hb h0
   rw [hcs] at hcs2
   cases hcs2
   obtain ⟨i1,x1⟩:=seal_out (m0:=m0) (n:=0) (z:=cs.size) hi ht (i:=i) (by rw [hb];simpa [O.has] using h0) ⟨cs,T,hcs,Nat.le_refl _⟩
   refine ⟨_,?_,i1,x1⟩
   obtain ⟨b,off,cap',k2,u,ev,hc,hm,hk2,hp,hr2⟩:=rvE_sl hx h0
   cases ev
   have hkk:k2=k:=by
    obtain ⟨a,r,rfl⟩:=List.exists_cons_of_ne_nil (List.length_pos_iff.1 h0)
    rw [<-hk2 a (by simp),hk a (by simp)]
   subst hkk
   exact .e (.fs (k:=k2) (z:=cs.size) u (by simp [Gh.seal]) hcap rfl hc hm hk2 (fun j hj=>⟨.inl (hp j hj).1,(hp j hj).2⟩) fun j d hd=>seal_mono hi ht (hr2 j d hd))
end Go.Proofs.YtfplalbognalkaaGreat.Ab
/- Rows of values: compared. -/
namespace Go.Proofs.YtfplalbognalkaaGreat.Ab
open Go
def vcmp (p q:Bool×Int):Int:=if p.1=true/\q.1=true then 0 else if p.1=true then-1 else if q.1=true then 1 else if p.2<q.2 then-1 else if q.2<p.2 then 1 else 0
def rcmp:List (Bool×Int)->List (Bool×Int)->Int
 | [], []=>0
 | [],_::_=> -1
 | _::_, []=>1
 | p::l,q::m=>if vcmp p q≠0 then vcmp p q else rcmp l m
end Go.Proofs.YtfplalbognalkaaGreat.Ab
/- Rows of values: compared by the program. -/
namespace Go.Proofs.YtfplalbognalkaaGreat.Ab
open Go
end Go.Proofs.YtfplalbognalkaaGreat.Ab
/- The code of functions, in the small language. -/
namespace Go.Proofs.YtfplalbognalkaaGreat.Ab
open Go
end Go.Proofs.YtfplalbognalkaaGreat.Ab
/- Expressions: their values. -/
namespace Go.Proofs.YtfplalbognalkaaGreat.Ab
open Go
abbrev V:=Bool×Int
abbrev triV (k:Int):V:=(decide (k=1),if k=1 then 0 else k / 2)
def clean (p:V):V:=if p.1 then (true,0) else p
def leafV (o:Int×Int) (row:List V):V:=if o.1=1 then (false,o.2) else if o.1=2 then (true,0) else clean (row.getD o.2.toNat (false,0))
def unV (o:Int×Int) (b:V):V:=if o.1=7 then (b.1,if b.1=false/\b.2=0 then 1 else 0) else (false,if b.1 then 1 else 0)
def binV (o:Int×Int) (a b:V):V:=if o.1=4 then triV (cm o.2 a.1 a.2 b.1 b.2) else if o.1=5 then triV (min (tr a.1 a.2) (tr b.1 b.2)) else triV (max (tr a.1 a.2) (tr b.1 b.2))
inductive Seg (l:List (Int×Int)) (row:List V):Nat->Nat->V->Prop
 | leaf {e o} (h:l[e]?=some o) (ht:takes o row.length=0):Seg l row e (e+1) (leafV o row)
 | un {j e o b} (hb:Seg l row j e b) (h:l[e]?=some o) (ht:takes o row.length=1):Seg l row j (e+1) (unV o b)
 | bin {j m e o a b} (ha:Seg l row j m a) (hb:Seg l row m e b) (h:l[e]?=some o) (ht:takes o row.length=2):Seg l row j (e+1) (binV o a b)
theorem Seg.lt {l row j e v} (h:Seg l row j e v):j<e/\e<=l.length:=by
 induction h with
 | leaf h _=>exact ⟨by omega,(List.getElem?_eq_some_iff.1 h).1⟩
 | un _ h _ ih=>exact ⟨by omega,(List.getElem?_eq_some_iff.1 h).1⟩
 | bin _ _ h _ ih ih'=>exact ⟨by omega,(List.getElem?_eq_some_iff.1 h).1⟩
def step (row:List V) (o:Int×Int) (st:List V):List V:=
 if takes o row.length=0 then leafV o row::st
 else if takes o row.length=1 then (match st with | b::r=>unV o b::r | _=> [])
 else (match st with | b::a::r=>binV o a b::r | _=> [])
end Go.Proofs.YtfplalbognalkaaGreat.Ab
/- Rows in order: the plain law of sorting. -/
namespace Go.Proofs.YtfplalbognalkaaGreat.Ab
open Go
abbrev Row:=List (Bool×Int)
def leR (a b:Row):Bool:=decide (rcmp a b<=0)
def srt (l:List Row):List Row:=l.mergeSort leR
end Go.Proofs.YtfplalbognalkaaGreat.Ab
/- The code of functions, in the small language. -/
namespace Go.Proofs.YtfplalbognalkaaGreat.Ab
open Go
def c22:F:=⟨19, [(.tmp 4)],(.seq (.reg [ZA 4 (.mov (.c (.int 0)))]) (.seq (.seq (.reg [ZA 5 (.mov (.c (.int 0)))]) (.block 0 (.loop (.seq (.seq (.reg [ZM 6 5,ZM 7 0,ZA 8 (.lenl 7),ZA 9 (.bin .lss 6 8)]) (.cond 9 .skip (.exit 0))) (.seq (.block 1 (.reg [ZM 12 0,ZM 13 5,ZA 14 (.iadr none 1 12 13),ZL 15 14,ZM 16 1,ZC 17 54 [15,16],ZM 1 17])) (.reg [ZM 10 5,ZA 11 (.bin .add 10 (.c (.int 1))),ZM 5 11])))))) (.seq (.reg [ZM 18 1,ZM 4 18]) .ret)))⟩
theorem p22:prepF Tryz.prog 22=some c22:=by kernel_rfl
def c54:F:=⟨29, [(.tmp 4)],(.seq (.reg [ZA 4 (.mov (.c (.int 0)))]) (.seq (.seq (.reg [ZA 5 (.mov (.c (.int 0)))]) (.block 0 (.loop (.seq (.seq (.reg [ZM 6 5,ZM 7 0,ZA 8 (.lenl 7),ZA 9 (.bin .lss 6 8)]) (.cond 9 .skip (.exit 0))) (.seq (.block 1 (.seq (.reg [ZM 12 0,ZM 13 5,ZM 14 1,ZA 15 (.bin .rem 14 (.c (.int 3))),ZA 16 (.bin .eql 15 (.c (.int 0))),ZA 17 (.iadr none 2 12 13),ZE 18 0 17,ZN (.store false 1 18 16)]) (.seq (.reg [ZM 19 1,ZA 20 (.bin .add 19 (.c (.int 1))),ZM 1 20]) (.seq (.reg [ZM 21 0,ZM 22 5,ZM 23 1,ZA 24 (.iadr none 2 21 22),ZE 25 1 24,ZN (.store false 1 25 23)]) (.reg [ZM 26 1,ZA 27 (.bin .add 26 (.c (.int 1))),ZM 1 27]))))) (.reg [ZM 10 5,ZA 11 (.bin .add 10 (.c (.int 1))),ZM 5 11])))))) (.seq (.reg [ZM 28 1,ZM 4 28]) .ret)))⟩
theorem p54:prepF Tryz.prog 54=some c54:=by kernel_rfl
end Go.Proofs.YtfplalbognalkaaGreat.Ab
/- Sorting rows that know their numbers: the plain law (a stable sort). -/
namespace Go.Proofs.YtfplalbognalkaaGreat.Ab.NS
open Go
abbrev Row:=Nat×Ab.Row
abbrev r0:Row:=(0, [])
def rcmp (a b:Row):Int:=Ab.rcmp a.2 b.2
def le (a b:Row):Prop:=rcmp a b<0\/(rcmp a b=0/\a.1<=b.1)
instance (a b:Row):Decidable (le a b):=by unfold le;infer_instance
def leR (a b:Row):Bool:=decide (le a b)
def srt (l:List Row):List Row:=l.mergeSort leR
end Go.Proofs.YtfplalbognalkaaGreat.Ab.NS
/- Sorting: insertion. -/
namespace Go.Proofs.YtfplalbognalkaaGreat.Ab.NS
open Go
end Go.Proofs.YtfplalbognalkaaGreat.Ab.NS
/- Sorting: stretches changed about. -/
namespace Go.Proofs.YtfplalbognalkaaGreat.Ab.NS
open Go
end Go.Proofs.YtfplalbognalkaaGreat.Ab.NS
/- Sorting: two stretches turned. -/
namespace Go.Proofs.YtfplalbognalkaaGreat.Ab.NS
open Go
end Go.Proofs.YtfplalbognalkaaGreat.Ab.NS
/- Sorting: one row put among sorted ones. -/
namespace Go.Proofs.YtfplalbognalkaaGreat.Ab.NS
open Go
end Go.Proofs.YtfplalbognalkaaGreat.Ab.NS
/- Sorting: sorted ones, and one row behind them; the plain law of a merge. -/
namespace Go.Proofs.YtfplalbognalkaaGreat.Ab.NS
open Go
end Go.Proofs.YtfplalbognalkaaGreat.Ab.NS
/- Sorting: two sorted stretches put together. -/
namespace Go.Proofs.YtfplalbognalkaaGreat.Ab.NS
open Go
end Go.Proofs.YtfplalbognalkaaGreat.Ab.NS
/- Sorting: blocks, then stretches of twice the size. -/
namespace Go.Proofs.YtfplalbognalkaaGreat.Ab.NS
open Go
def blkN (k:Nat):Nat->List Row->List Row
 | 0,_=> []
 | m+1,l=>if l= [] then [] else srt (l.take k)++blkN k m (l.drop k)
def blk (k:Nat) (l:List Row):List Row:=blkN k l.length l
end Go.Proofs.YtfplalbognalkaaGreat.Ab.NS
/- Rows are sorted: the program's function. -/
namespace Go.Proofs.YtfplalbognalkaaGreat.Ab.NS
open Go
end Go.Proofs.YtfplalbognalkaaGreat.Ab.NS
/- The program's sort of rows, with numbers. -/
namespace Go.Proofs.YtfplalbognalkaaGreat.Ab.NS
open Go
theorem tok_side {es:List E} {q0 q1:Nat} {e:E} :Side (fun _=>es.map .e) (fun _=> [.ids q0]) (fun _=> .e e) (fun _=> [.ids q1]):=
 ⟨fun t=>by rw [rens_e],by rw [lts_e],fun t=>rfl,by intro o ho;rw [List.mem_singleton] at ho;subst ho;rfl,fun t=>rfl,fun t=>rfl,Nat.le_refl _⟩
end Go.Proofs.YtfplalbognalkaaGreat.Ab.NS
/- The program's sort of rows, whole, with numbers. -/
namespace Go.Proofs.YtfplalbognalkaaGreat.Ab.NS
open Go
def nums:Nat->List Ab.Row->List Row
 | _, []=> []
 | q,r::l=>(q,r)::nums (q+1) l
theorem nums_len: ∀(q:Nat) (l:List Ab.Row),(nums q l).length=l.length
 | _, []=>rfl
 | q,_::l=>by simp [nums,nums_len (q+1) l]
theorem nums_get: ∀(q:Nat) (l:List Ab.Row) (j:Nat),(nums q l)[j]?=l[j]?.map fun r=>(q+j,r)
 | _, [],j=>by simp [nums]
 | q,r::l,0=>by simp [nums]
 | q,r::l,j+1=>by
  simp only [nums,List.getElem?_cons_succ,nums_get (q+1) l j]
  congr 1
  funext r
  congr 1
  omega
def nrow (r:Row):List E:= [.fs r.1 (r.2.map vr)]
end Go.Proofs.YtfplalbognalkaaGreat.Ab.NS
/- Rows copied by the law, with numbers. -/
namespace Go.Proofs.YtfplalbognalkaaGreat.Ab.NS
open Go
def rowsN (q:Nat) (l:List Ab.Row):List (List E):=(nums q l).map nrow
theorem ok215 (q0:Nat) (l:List (Bool×Int)) (es:List (List E)) (he:es=l.map vr) (hlen:es.length<=1048576):Proc Tryz.prog 215 (fun _=> [.e (.sl es)]) (fun _=> [.ids q0]) (fun _=> .e (.fs q0 es)) (fun _=> [.ids (q0+1)]):=procOf mixed p215 (tok_side (es:= [.sl es])) fun A P hA hP=>(by
 have hl1:es.length=l.length:=by rw [he];simp
 have hes: ∀e∈es,e.length=2:=by
  rw [he]
  intro e h
  obtain ⟨p,_,rfl⟩:=List.mem_map.1 h
  rfl
 cbv
 repeat' first | exact W1 | refine WA ?_ ?_ | with_reducible intro hcc | refine WS ?_ | ((with_reducible first | refine callK_f hA hP (ok235 _ _) ?_ ?_ ?_);exact rfl;exact rfl;cbv) | refine W6 ?_ | ((with_reducible first | refine hA.Len fun z hz hb=>?_ | refine hA.Off fun b hb=>?_ | refine hA.Rep fun ds m hds hm=>?_);cbv) | ((with_reducible first | refine hA.Sto ?_ fun ds hds=>?_ | refine hA.Sapp ?_ fun sl hsl=>?_);rotate_left;cbv) | refine WL ?_ | fail
 all_goals try simp only [hA.sm,n_cast] at *
 ·omega
 ·omega
 ·refine hA.loopI (fun n s=> ∃(i:Int) (xs:List (List E)),0<=i/\n+i=es.length/\xs.length=es.length/\(∀e∈xs,e.length=2)/\(∀j:Nat,j<i->xs[j]?=es[j]?)/\
    s=⟨[(4,.int i),(3,.bs 1 0 m 2),(2,.zs),(0,.e (.sl es))], [.ids q0,.box (xs.flatten.map .e)]⟩) es.length _
   (Weak.keep (env':= [(4,.int 0),(3,.bs 1 0 m 2),(2,.zs),(0,.e (.sl es))]) ⟨rfl,rfl,rfl,rfl,trivial⟩)
   ⟨0,List.replicate m [E.bool false,E.int 0],by omega,by omega,by simp;omega,by simp,fun j hj=>by omega,by rw [<-buf_zero,hm];rw [hds];rfl⟩ ?_
  rintro n s K ⟨i,xs,h0,h1,h2,h3,h4,rfl⟩ hK
  obtain ⟨ys,hys⟩: ∃ys,ys=xs.flatten.map D.e:=⟨_,rfl⟩
  rw [<-hys]
  cbv
  repeat' first | exact W1 | refine WA ?_ ?_ | with_reducible intro hcc | refine WS ?_ | ((with_reducible first | refine callK_f hA hP (ok235 _ _) ?_ ?_ ?_);exact rfl;exact rfl;cbv) | ((with_reducible refine hA.finv _ _ _ _ _ (finv_bsFs (t:=0) (es:=es) rfl ?_ ?_ hes))) | ((with_reducible refine hA.row es _ _ ?_);have hin:(0:Int)<=i/\i<es.length:=(by simp only [hA.lt,decide_eq_true_eq,n_cast] at *;omega);obtain ⟨⟨b1,v1⟩,e1,q1⟩:=row_val he hin;refine ⟨hin,fun row hrow=>?_⟩;rw [e1] at hrow;subst hrow;cbv) | refine W6 ?_ | ((with_reducible first | refine hA.Len fun z hz hb=>?_ | refine hA.Off fun b hb=>?_ | refine hA.Rep fun ds m hds hm=>?_);cbv) | ((with_reducible first | refine hA.Sto ?_ fun ds hds=>?_ | refine hA.Sapp ?_ fun sl hsl=>?_);rotate_left;cbv) | refine WL ?_ | fail
  all_goals try simp only [hA.sm,n_cast] at *
  ·exact h0
  ·show i<(m:Int)
   omega
  ·omega
  ·have hb':b=i.toNat * 2:=by omega
   have hrow:es[i.toNat]?=some [E.bool b1,E.int v1]:=by
    have:i.toNat<es.length:=by omega
    rw [<-e1];simp [List.getD,this]
   refine hK _ (n-1) _ (by omega) (Weak.keep (env':= [(4,.int (i+1)),(3,.bs 1 0 m 2),(2,.zs),(0,.e (.sl es))]) ⟨rfl,rfl,rfl,rfl,trivial⟩)
    ⟨i+1,xs.set i.toNat [E.bool b1,E.int v1],by omega,by omega,by simp [h2],?_,fun j hj=>?_,?_⟩
   ·intro e h
    rcases List.mem_or_eq_of_mem_set h with h | rfl
    ·exact h3 e h
    ·rfl
   ·by_cases hji:(j:Int)<i
    ·rw [List.getElem?_set_ne (show i.toNat≠j by omega)];exact h4 j hji
    ·have:j=i.toNat:=by omega
     subst this
     rw [List.getElem?_set_self (show i.toNat<xs.length by omega),hrow]
   ·congr 3
    rw [hds,hys,hb']
    congr 1
    exact buf_set (k:=2) (by omega) h3 (i:=i.toNat) (show i.toNat<xs.length by omega) (r:= [E.bool b1,E.int v1]) rfl
  ·have:ys.length=xs.length * 2:=by rw [hys,List.length_map,flatten_len h3]
   omega
  ·have hxe:xs=es:=by
    refine List.ext_getElem? fun j=>?_
    by_cases hj:(j:Int)<i
    ·exact h4 j hj
    ·rw [List.getElem?_eq_none (by grind),List.getElem?_eq_none (by grind)]
   rw [hys,hxe];rfl
  ·omega)
theorem ok161 (q0:Nat) (l:List (List (Bool×Int))) (es:List (List E)) (he:es=l.map rsr) (hlen:es.length<=1048576) (hb2: ∀r∈l,r.length<=1048576):
  Proc Tryz.prog 161 (fun _=> [.e (.sl es)]) (fun _=> [.ids q0]) (fun _=> .e (.fs (q0+es.length) (rowsN q0 l))) (fun _=> [.ids (q0+es.length+1)]):=procOf mixed p161 (tok_side (es:= [.sl es])) fun A P hA hP=>(by
 obtain ⟨ts,hts⟩: ∃ts,ts=rowsN q0 l:=⟨_,rfl⟩
 have htl:ts.length=es.length:=by rw [hts,he,rowsN,List.length_map,nums_len,List.length_map]
 have htk: ∀e∈ts,e.length=1:=by
  rw [hts]
  intro e h
  obtain ⟨p,_,rfl⟩:=List.mem_map.1 h
  rfl
 obtain ⟨qe,hqe⟩: ∃q,q=q0+es.length:=⟨_,rfl⟩
 rw [<-hts,<-hqe]
 have hl1:es.length=l.length:=by rw [he];simp
 have hes: ∀e∈es,e.length=1:=by
  rw [he]
  intro e h
  obtain ⟨p,_,rfl⟩:=List.mem_map.1 h
  rfl
 cbv
 repeat' first | exact W1 | refine WA ?_ ?_ | with_reducible intro hcc | refine WS ?_ | refine W6 ?_ | ((with_reducible first | refine hA.Len fun z hz hb=>?_ | refine hA.Off fun b hb=>?_ | refine hA.Rep fun ds m hds hm=>?_);cbv) | ((with_reducible first | refine hA.Sto ?_ fun ds hds=>?_ | refine hA.Sapp ?_ fun sl hsl=>?_);rotate_left;cbv) | refine WL ?_ | fail
 all_goals try simp only [hA.sm,n_cast] at *
 ·omega
 ·omega
 ·refine hA.loopI (fun n s=> ∃(i:Int) (qi:Nat) (xs:List (List E)),0<=i/\n+i=es.length/\qi=q0+i.toNat/\xs.length=es.length/\(∀e∈xs,e.length=1)/\(∀j:Nat,j<i->xs[j]?=ts[j]?)/\
    s=⟨[(4,.int i),(3,.bs 1 0 m 1),(2,.zs),(0,.e (.sl es))], [.ids qi,.box (xs.flatten.map .e)]⟩) es.length _
   (Weak.keep (env':= [(4,.int 0),(3,.bs 1 0 m 1),(2,.zs),(0,.e (.sl es))]) ⟨rfl,rfl,rfl,rfl,trivial⟩)
   ⟨0,q0,List.replicate m [E.sl []],by omega,by omega,by simp,by simp;omega,by simp,fun j hj=>by omega,by rw [<-buf_zero,hm];rw [hds];rfl⟩ ?_
  rintro n s K ⟨i,qi,xs,h0,h1,hq,h2,h3,h4,rfl⟩ hK
  obtain ⟨ys,hys⟩: ∃ys,ys=xs.flatten.map D.e:=⟨_,rfl⟩
  have hyl:ys.length=xs.length * 1:=by rw [hys,List.length_map,flatten_len h3]
  rw [<-hys]
  by_cases hin:(0:Int)<=i/\i<es.length
  ·obtain ⟨r1,e1,q1⟩:=row_at he hin
   obtain ⟨x1,hx1⟩: ∃x,x=r1.map vr:=⟨_,rfl⟩
   have e1:es.getD i.toNat []= [E.sl x1]:=e1.trans (by rw [hx1])
   obtain ⟨qj,hqj⟩: ∃q,q=qi+1:=⟨_,rfl⟩
   have hc:Proc Tryz.prog 215 (fun _=> [.e (.sl x1)]) (fun _=> [.ids qi]) (fun _=> .e (.fs qi x1)) (fun _=> [.ids qj]):=by
    rw [hqj]
    exact ok215 qi r1 x1 hx1 (by have:=hb2 r1 (List.mem_of_getElem? q1);rw [hx1,List.length_map];omega)
   have hrow0:ts[i.toNat]?=some [.fs qi x1]:=by rw [hts,rowsN,List.getElem?_map,nums_get,q1,hx1,hq];rfl
   clear hts
   cbv
   repeat' first | exact W1 | refine WA ?_ ?_ | with_reducible intro hcc | refine WS ?_ | ((with_reducible show A.call _ _ _ _ _ 215 _ _ _);have hc:=hc;refine callK_pr hA hP [0] (by rfl) (by exact ⟨rfl,trivial⟩) (Wks.refl _) ?_ (fun _ _=>hc) hc.side;cbv) | (refine hA.RowE hin e1 ?_;cbv) | refine W6 ?_ | ((with_reducible first | refine hA.Len fun z hz hb=>?_ | refine hA.Off fun b hb=>?_ | refine hA.Rep fun ds m hds hm=>?_);cbv) | ((with_reducible first | refine hA.Sto ?_ fun ds hds=>?_ | refine hA.Sapp ?_ fun sl hsl=>?_);rotate_left;cbv) | refine WL ?_ | fail
   all_goals try simp only [hA.sm,n_cast] at *
   all_goals first
    | (show _<(m:Int);omega)
    | omega
    | (clear hK h4 he;grind;done)
    | (have hb':b=i.toNat * 1:=by omega
       refine hK _ (n-1) _ (by omega) (Weak.keep (env':= [(4,.int (i+1)),(3,.bs 1 0 m 1),(2,.zs),(0,.e (.sl es))]) ⟨rfl,rfl,rfl,rfl,trivial⟩)
        ⟨i+1,qj,xs.set i.toNat [.fs qi x1],by omega,by omega,by omega,by simp [h2],fun e h=>?_,fun j hj=>?_,?_⟩
       ·rcases List.mem_or_eq_of_mem_set h with h | rfl
        ·exact h3 e h
        ·rfl
       ·by_cases hji:(j:Int)<i
        ·rw [List.getElem?_set_ne (show i.toNat≠j by omega)];exact h4 j hji
        ·have:j=i.toNat:=by omega
         subst this
         rw [List.getElem?_set_self (show i.toNat<xs.length by omega),hrow0]
       ·congr 3
        rw [hds,hys,hb']
        congr 1
        exact buf_set (k:=1) (by omega) h3 (i:=i.toNat) (show i.toNat<xs.length by omega) (r:= [.fs qi x1]) rfl)
  ·have hxe:xs=ts:=by
    refine List.ext_getElem? fun j=>?_
    by_cases hj:(j:Int)<i
    ·exact h4 j hj
    ·rw [List.getElem?_eq_none (by omega),List.getElem?_eq_none (by omega)]
   have hqq:qi=qe:=by omega
   subst hqq
   cbv
   repeat' first | exact W1 | refine WA ?_ ?_ | with_reducible intro hcc | refine WS ?_ | (exfalso;simp only [hA.lt,hA.sub,decide_eq_true_eq,decide_eq_false_iff_not,n_cast] at *;omega) | ((with_reducible refine hA.finv _ _ _ _ _ (finv_bsFs (t:=0) (es:=ts) rfl ?_ ?_ htk))) | refine W6 ?_ | ((with_reducible first | refine hA.Len fun z hz hb=>?_ | refine hA.Off fun b hb=>?_ | refine hA.Rep fun ds m hds hm=>?_);cbv) | ((with_reducible first | refine hA.Sto ?_ fun ds hds=>?_ | refine hA.Sapp ?_ fun sl hsl=>?_);rotate_left;cbv) | refine WL ?_ | fail
   all_goals try simp only [hA.sm,n_cast] at *
   all_goals first
    | (rw [hys,hxe];rfl)
    | omega
    | (clear hK h4 he;grind;done))
end Go.Proofs.YtfplalbognalkaaGreat.Ab.NS
/- Marks in rows: what they are, and that rows keep their numbers. -/
namespace Go.Proofs.YtfplalbognalkaaGreat.Ab.NS
open Go
def mk2:Int->Ab.Row->Ab.Row
 | _, []=> []
 | k,_::l=>(decide (k % 3=0),k+1)::mk2 (k+2) l
theorem mk2_len: ∀(k:Int) (l:Ab.Row),(mk2 k l).length=l.length
 | _, []=>rfl
 | k,_::l=>by simp [mk2,mk2_len (k+2) l]
theorem mk2_get: ∀(k:Int) (l:Ab.Row) (i:Nat),i<l.length->(mk2 k l)[i]?=some (decide ((k+2 * i) % 3=0),k+2 * i+1)
 | _, [],_,h=>by simp at h
 | k,_::l,0,_=>by simp [mk2]
 | k,_::l,i+1,h=>by
  rw [mk2,List.getElem?_cons_succ,mk2_get (k+2) l i (by simpa using h)]
  have:k+2+2 * (i:Int)=k+2 * ((i+1:Nat):Int):=by omega
  rw [this]
def cnt:List Row->Int
 | []=>0
 | r::l=>2 * r.2.length+cnt l
theorem cnt_nonneg: ∀l:List Row,0<=cnt l
 | []=>Int.le_refl _
 | r::l=>by have:=cnt_nonneg l;simp only [cnt];omega
theorem cnt_drop {l:List Row} {i:Nat} {r:Row} (h:l[i]?=some r):cnt (l.drop i)=2 * r.2.length+cnt (l.drop (i+1)):=by
 obtain ⟨a,b⟩:=List.getElem?_eq_some_iff.1 h
 rw [List.drop_eq_getElem_cons a,b]
 rfl
def mkR:Int->List Row->List Row
 | _, []=> []
 | k,r::l=>(r.1,mk2 k r.2)::mkR (k+2 * r.2.length) l
theorem mkR_len: ∀(k:Int) (l:List Row),(mkR k l).length=l.length
 | _, []=>rfl
 | k,r::l=>by simp [mkR,mkR_len _ l]
theorem mkR_get: ∀(k:Int) (l:List Row) (i:Nat) (r:Row),l[i]?=some r->(mkR k l)[i]?=some (r.1,mk2 (k+cnt l-cnt (l.drop i)) r.2)
 | _, [],_,_,h=>by simp at h
 | k,a::l,0,r,h=>by
  simp at h
  subst h
  simp only [mkR,List.getElem?_cons_zero,List.drop_zero]
  rw [show k+cnt (a::l)-cnt (a::l)=k by omega]
 | k,a::l,i+1,r,h=>by
  rw [mkR,List.getElem?_cons_succ,mkR_get _ l i r (by simpa using h),List.drop_succ_cons]
  simp only [cnt]
  rw [show k+2 * (a.2.length:Int)+cnt l-cnt (l.drop i)=k+(2 * (a.2.length:Int)+cnt l)-cnt (l.drop i) by omega]
theorem flat_set {α:Type} {k:Nat} : ∀ {xs:List (List α)} {i c:Nat} {r:List α} (a:α),(∀e∈xs,e.length=k)->xs[i]?=some r->c<k->xs.flatten.set (i * k+c) a=(xs.set i (r.set c a)).flatten
 | [],_,_,_,_,_,h,_=>by simp at h
 | x::xs,0,c,r,a,hk,h,hc=>by
  simp at h
  subst h
  have:=hk x (by simp)
  rw [List.set_cons_zero,List.flatten_cons,List.flatten_cons,Nat.zero_mul,Nat.zero_add,List.set_append_left _ _ (by omega)]
 | x::xs,i+1,c,r,a,hk,h,hc=>by
  have:=hk x (by simp)
  rw [List.set_cons_succ,List.flatten_cons,List.flatten_cons,<-flat_set a (fun e he=>hk e (by simp [he])) (by simpa using h) hc,List.set_append_right _ _ (by rw [this,Nat.succ_mul];omega)]
  congr 2
  rw [this,Nat.succ_mul];omega
theorem cells_set {k:Nat} {xs:List (List E)} {i c off:Nat} {r:List E} {a:E} {ds ds':List D} (hd:ds=xs.flatten.map .e) (hk: ∀e∈xs,e.length=k) (hi:xs[i]?=some r) (hc:c<k) (ho:off=i * k+c) (h:ds'=ds.take off++ [.e a]++ds.drop (off+1)):
  ds'=(xs.set i (r.set c a)).flatten.map .e:=by
 have hil:i<xs.length:=(List.getElem?_eq_some_iff.1 hi).1
 have hl:off<ds.length:=by
  rw [hd,List.length_map,flatten_len hk,ho]
  have:(i+1) * k<=xs.length * k:=Nat.mul_le_mul_right k hil
  rw [Nat.succ_mul] at this
  omega
 rw [<-flat_set a hk hi hc,List.map_set,<-hd,<-ho,h,List.set_eq_take_append_cons_drop,if_pos hl]
 simp
theorem numss_vr: ∀l:Ab.Row,numss (l.map vr)=some []
 | []=>rfl
 | p::l=>by
  simp only [List.map_cons,numss,numss_vr l]
  rfl
theorem nums_ne {i:Nat} {es:List (List E)} (h:es≠ []):(E.fs i es).nums=(numss es).map fun l=>i::l:=by
 cases es with
 | nil=>exact absurd rfl h
 | cons a es=>rw [E.nums];intro h;cases h
theorem fs_vr (q:Nat) (l:Ab.Row): ∃ns,(E.fs q (l.map vr)).nums=some ns/\ns.Sublist [q]:=by
 cases l with
 | nil=>exact ⟨[],rfl,List.nil_sublist _⟩
 | cons p l=>
  refine ⟨[q],?_,List.Sublist.refl _⟩
  rw [nums_ne (by simp),numss_vr]
  rfl
theorem nums_rows: ∀L:List Row,∃ns,numss (L.map nrow)=some ns/\ns.Sublist (L.map Prod.fst)
 | []=>⟨[],rfl,List.nil_sublist _⟩
 | r::L=>by
  obtain ⟨a,h1,h2⟩:=fs_vr r.1 r.2
  obtain ⟨b,h3,h4⟩:=nums_rows L
  refine ⟨a++b,?_,?_⟩
  ·simp only [List.map_cons,numss,nrow,numsr,h1]
   rw [h3]
   simp
  ·exact h2.append h4
theorem nums_fst (q:Nat) (l:List Ab.Row):(nums q l).map Prod.fst=List.range' q l.length:=by
 induction l generalizing q with
 | nil=>rfl
 | cons r l ih=>rw [nums,List.map_cons,ih,List.length_cons,List.range'_succ]
theorem nums_snd (q:Nat) (l:List Ab.Row):(nums q l).map Prod.snd=l:=by
 induction l generalizing q with
 | nil=>rfl
 | cons r l ih=>rw [nums,List.map_cons,ih]
theorem unss_vr (l:Ab.Row):unss (l.map vr)=l.map vr:=by
 rw [unss_map,List.map_map]
 rfl
theorem un_rows (n:Nat) (L:List Row):(E.fs n (L.map nrow)).un= .sl (L.map fun r=>rsr r.2):=by
 rw [E.un,unss_map,List.map_map]
 congr 1
 refine List.map_congr_left fun r _=>?_
 simp only [Function.comp,nrow,List.map_cons,List.map_nil,E.un,unss_vr]
theorem cnt_sum: ∀(L:List Row) (l:List Ab.Row),L.map Prod.snd=l->cnt L<=2 * sumC cV l
 | [],l,h=>by subst h;simp [cnt,sumC]
 | r::L,l,h=>by
  subst h
  have:=cnt_sum L _ rfl
  simp only [List.map_cons,cnt,sumC,cV] at *
  omega
theorem cnt_le: ∀(L:List Row) (i:Nat),cnt (L.drop i)<=cnt L
 | [],i=>by rw [List.drop_nil];exact Int.le_refl _
 | r::L,0=>Int.le_refl _
 | r::L,i+1=>by
  have:=cnt_le L i
  rw [List.drop_succ_cons]
  simp only [cnt]
  omega
theorem rv_id {w:World} {G:Gh} {h:Hp} {v:Value} {i:Nat} (r:Rv w G h v (.rv i)):v=id (G.rv i):=by
 cases r;rfl
end Go.Proofs.YtfplalbognalkaaGreat.Ab.NS
/- Marks in rows, walked: rows of scalars. -/
namespace Go.Proofs.YtfplalbognalkaaGreat.Ab.NS
open Go
theorem vec_side {n k:Nat} {z z':Int} {xs xs':List E} :Side (fun t=> [.vec (t 0) n k,.int z]) (fun _=> [.vec true k (xs.map .e)]) (fun _=> .int z') (fun _=> [.vec true k (xs'.map .e)]):=
 ⟨fun t=>rfl,rfl,fun t=>by simp only [List.map_cons,List.map_nil,O.ren,rens_e],by intro o ho;rw [List.mem_singleton] at ho;subst ho;simp only [O.lt,lts_e],fun t=>rfl,fun t=>by simp only [List.map_cons,List.map_nil,O.ren,rens_e],Nat.le_refl _⟩
theorem ok54 (l:Ab.Row) (es:List (List E)) (he:es=l.map vr) (k:Int) (hk:0<=k) (hk2:k+2 * es.length<=140737488355328):
  Proc Tryz.prog 54 (fun t=> [.vec (t 0) es.length 2,.int k]) (fun _=> [.vec true 2 (es.flatten.map .e)]) (fun _=> .int (k+2 * es.length)) (fun _=> [.vec true 2 (((mk2 k l).map vr).flatten.map .e)]):=procOf mixed p54 vec_side fun A P hA hP=>(by
 have hl1:es.length=l.length:=by rw [he];simp
 have hes: ∀e∈es,e.length=2:=by
  rw [he]
  intro e h
  obtain ⟨p,_,rfl⟩:=List.mem_map.1 h
  rfl
 obtain ⟨ts,hts⟩: ∃ts,ts=(mk2 k l).map vr:=⟨_,rfl⟩
 have htl:ts.length=es.length:=by rw [hts,hl1,List.length_map,mk2_len]
 have htg: ∀i:Nat,i<es.length->ts[i]?=some [E.bool (decide ((k+2 * i) % 3=0)),E.int (k+2 * i+1)]:=fun i h=>by
  rw [hts,List.getElem?_map,mk2_get k l i (by omega)]
  rfl
 obtain ⟨kr,hkr⟩: ∃r,r=k+2 * (es.length:Int):=⟨_,rfl⟩
 obtain ⟨n,hn⟩: ∃n,n=es.length:=⟨_,rfl⟩
 obtain ⟨ys0,hys0⟩: ∃ys,ys=es.flatten.map D.e:=⟨_,rfl⟩
 obtain ⟨zs,hzs⟩: ∃zs,zs=ts.flatten.map D.e:=⟨_,rfl⟩
 rw [<-hts,<-hkr,<-hzs,<-hn,<-hys0]
 cbv
 repeat' first | exact W1 | refine WA ?_ ?_ | with_reducible intro hcc | refine WS ?_ | refine W6 ?_ | ((with_reducible first | refine hA.Len fun z hz hb=>?_ | refine hA.Off fun b hb=>?_ | refine hA.Plus fun b hb=>?_);cbv) | ((with_reducible first | refine hA.Sto ?_ fun ds hds=>?_ | refine hA.Sapp ?_ fun sl hsl=>?_);rotate_left;cbv) | refine WL ?_ | fail
 all_goals try simp only [hA.sm,n_cast] at *
 all_goals try omega
 refine hA.loopI (fun m s=> ∃(i k1:Int) (xs:List (List E)),0<=i/\m+i=n/\k1=k+2 * i/\xs.length=n/\(∀e∈xs,e.length=2)/\(∀j:Nat,j<i->xs[j]?=ts[j]?)/\
    s=⟨[(5,.int i),(0,.vec 0 n 2),(1,.int k1)], [.vec true 2 (xs.flatten.map .e)]⟩) n _
   (Weak.keep (env':= [(5,.int 0),(0,.vec 0 n 2),(1,.int k)]) ⟨rfl,rfl,rfl,trivial⟩)
   ⟨0,k,es,by omega,by omega,by omega,by omega,hes,fun j hj=>by omega,by rw [hys0]⟩ ?_
 rintro m s K' ⟨i,k1,xs,h0,h1,hk1,h2,h3,h4,rfl⟩ hK
 obtain ⟨ys,hys⟩: ∃ys,ys=xs.flatten.map D.e:=⟨_,rfl⟩
 have hyl:ys.length=xs.length * 2:=by rw [hys,List.length_map,flatten_len h3]
 rw [<-hys]
 by_cases hin:(0:Int)<=i/\i<n
 ·have e1:A.lt i (Int.ofNat n)=true:=by rw [hA.lt,Int.ofNat_eq_natCast];exact decide_eq_true (by omega)
  obtain ⟨b0,hb0⟩: ∃b,b=A.eq (A.mod k1 3) 0:=⟨_,rfl⟩
  have hb1:b0=decide (k1 % 3=0):=by rw [hb0,hA.eq,hA.mod]
  have hK2: ∀(b c:Nat) (ds1 ds2:List D) (env:List (Nat×D)),ds2=ds1.take c++ [.e (E.int (k1+1))]++ds1.drop (c+1)->ds1=ys.take b++ [.e (E.bool b0)]++ys.drop (b+1)->b=0+i.toNat * 2->c=0+i.toNat * 2+1->
    subL [(5,.int (i+1)),(0,.vec 0 n 2),(1,.int (k1+1+1))] env->K' ⟨env, [.vec true 2 ds2]⟩:=fun b c ds1 ds2 env q4 q3 q1 q2 q5=>by
   obtain ⟨r,hr⟩: ∃r,xs[i.toNat]?=some r:=⟨_,List.getElem?_eq_getElem (by omega)⟩
   have hrl:=h3 r (List.mem_of_getElem? hr)
   have d1:=cells_set hys h3 hr (c:=0) (by omega) (by omega) q3
   have h3': ∀e∈xs.set i.toNat (r.set 0 (E.bool b0)),e.length=2:=fun e h=>by
    rcases List.mem_or_eq_of_mem_set h with h | rfl
    ·exact h3 e h
    ·rw [List.length_set];exact hrl
   have d2:=cells_set d1 h3' (List.getElem?_set_self (by omega)) (c:=1) (by omega) (by omega) q4
   rw [List.set_set] at d2
   have hrow:(r.set 0 (E.bool b0)).set 1 (E.int (k1+1))= [E.bool b0,E.int (k1+1)]:=by
    match r,hrl with
    | [x,y],_=>rfl
   rw [hrow] at d2
   refine hK _ (m-1) _ (by omega) (Weak.keep q5) ⟨i+1,k1+1+1,xs.set i.toNat [E.bool b0,E.int (k1+1)],by omega,by omega,by omega,by rw [List.length_set];exact h2,fun e h=>?_,fun j hj=>?_,by rw [d2]⟩
   ·rcases List.mem_or_eq_of_mem_set h with h | rfl
    ·exact h3 e h
    ·rfl
   ·by_cases hji:(j:Int)<i
    ·rw [List.getElem?_set_ne (show i.toNat≠j by omega)];exact h4 j hji
    ·have:j=i.toNat:=by omega
     subst this
     rw [List.getElem?_set_self (by omega),htg _ (by omega),hb1,hk1,show k+2 * i=k+2 * ((i.toNat:Nat):Int) by omega]
  clear hK h4 htg hts he
  cbv
  repeat' first | exact W1 | (simp only [e1,<-hb0];cbv) | refine WA ?_ ?_ | with_reducible intro hcc | refine WS ?_ | refine W6 ?_ | ((with_reducible first | refine hA.Len fun z hz hb=>?_ | refine hA.Off fun b hb=>?_ | refine hA.Plus fun b hb=>?_);cbv) | ((with_reducible first | refine hA.Sto ?_ fun ds hds=>?_ | refine hA.Sapp ?_ fun sl hsl=>?_);rotate_left;cbv) | refine WL ?_ | fail
  all_goals try simp only [hA.sm,n_cast] at *
  all_goals first
   | omega
   | exact hK2 _ _ _ _ _ (by assumption) (by assumption) (by omega) (by omega) ⟨rfl,rfl,rfl,trivial⟩
   | exact finv_refl hA
   | (subst_vars;simp only [List.length_append,List.length_take,List.length_drop,List.length_cons,List.length_nil];omega)
 ·have e1:A.lt i (Int.ofNat n)=false:=by rw [hA.lt,Int.ofNat_eq_natCast];exact decide_eq_false (by omega)
  have hxe:xs=ts:=by
   refine List.ext_getElem? fun j=>?_
   by_cases hj:(j:Int)<i
   ·exact h4 j hj
   ·rw [List.getElem?_eq_none (by omega),List.getElem?_eq_none (by omega)]
  have hyz:ys=zs:=by rw [hys,hzs,hxe]
  have hkk:k1=kr:=by omega
  subst hyz hkk
  clear hK h4 htg hts he
  cbv
  repeat' first | exact W1 | (simp only [e1];cbv) | refine WA ?_ ?_ | with_reducible intro hcc | refine WS ?_ | refine W6 ?_ | ((with_reducible first | refine hA.Len fun z hz hb=>?_ | refine hA.Off fun b hb=>?_ | refine hA.Plus fun b hb=>?_);cbv) | ((with_reducible first | refine hA.Sto ?_ fun ds hds=>?_ | refine hA.Sapp ?_ fun sl hsl=>?_);rotate_left;cbv) | refine WL ?_ | fail
  all_goals try simp only [hA.sm,n_cast] at *
  all_goals first
   | omega
   | exact finv_refl hA
   | (subst_vars;simp only [List.length_append,List.length_take,List.length_drop,List.length_cons,List.length_nil];omega))
end Go.Proofs.YtfplalbognalkaaGreat.Ab.NS
/- Marks in rows of rows, walked. -/
namespace Go.Proofs.YtfplalbognalkaaGreat.Ab.NS
open Go
theorem ok54z (k:Int) (hk:0<=k) (hk2:k<=140737488355328):Plain Tryz.prog 54 [.e (.sl []),.int k] (.int k):=okOf mixed p54 fun A P hA hP=>(by
 obtain ⟨es,hes⟩: ∃es:List (List E),es= []:=⟨_,rfl⟩
 have hl:es.length=0:=by rw [hes];rfl
 obtain ⟨i0,hi0⟩: ∃i:Int,i=0:=⟨_,rfl⟩
 obtain ⟨z1,hz1⟩: ∃z:Int,z=es.length:=⟨_,rfl⟩
 rw [<-hes]
 cbv
 repeat' first | exact W1 | refine WA ?_ ?_ | with_reducible intro hcc | refine WS ?_ | refine W6 ?_ | ((with_reducible first | refine hA.Len fun z hz hb=>?_ | refine hA.Off fun b hb=>?_ | refine hA.Plus fun b hb=>?_);cbv) | ((with_reducible first | refine hA.Sto ?_ fun ds hds=>?_ | refine hA.Sapp ?_ fun sl hsl=>?_);rotate_left;cbv) | refine WL ?_ | fail
 all_goals try simp only [hA.sm,n_cast] at *
 all_goals try omega
 refine hA.loopI (fun m s=>s=⟨[(5,.int i0),(0,.e (.sl es)),(1,.int k)], []⟩) 0 _
   (Weak.keep (env':= [(5,.int i0),(0,.e (.sl es)),(1,.int k)]) ⟨by rw [hi0];rfl,rfl,rfl,trivial⟩) rfl ?_
 rintro m s K' rfl hK
 have e1:A.lt i0 z1=false:=by rw [hA.lt];exact decide_eq_false (by omega)
 cbv
 repeat' first | exact W1 | (simp only [e1];cbv) | refine WA ?_ ?_ | with_reducible intro hcc | refine WS ?_ | (refine hA.LenE hz1 fun hb=>?_;cbv) | refine W6 ?_ | ((with_reducible first | refine hA.Len fun z hz hb=>?_ | refine hA.Off fun b hb=>?_ | refine hA.Plus fun b hb=>?_);cbv) | ((with_reducible first | refine hA.Sto ?_ fun ds hds=>?_ | refine hA.Sapp ?_ fun sl hsl=>?_);rotate_left;cbv) | refine WL ?_ | fail
 all_goals try simp only [hA.sm,n_cast] at *
 all_goals first
  | omega)
def fse (r:Row):E:= .fs r.1 (r.2.map vr)
theorem flat_nrow (L:List Row):(L.map nrow).flatten=L.map fse:=by
 induction L with
 | nil=>rfl
 | cons r L ih=>rw [List.map_cons,List.flatten_cons,ih];rfl
theorem trk_fse (L:List Row):(L.map fse).map trk=L.map fse:=by
 rw [List.map_map]
 rfl
theorem cells_fse: ∀(vs:List Value) (L:List Row),vs.length=L.length->cells vs (L.map fse)=vs.map fun v=> .e (.v v)
 | [], [],_=>rfl
 | v::vs,r::L,h=>by
  have:=cells_fse vs L (by simpa using h)
  simp only [cells,List.map_cons,List.zipWith_cons_cons] at this ⊢
  rw [this]
  rfl
 | [],_::_,h=>by simp at h
 | _::_, [],h=>by simp at h
theorem okV_int {k:Int} (h:0<=k) (h2:k<=140737488355328):okV (.int .i64 k)=true:=by
 simp only [okV,decide_eq_true_eq]
 have h3:IntKind.i64.min= -9223372036854775808:=by decide
 have h4:IntKind.i64.max=9223372036854775807:=by decide
 omega
theorem sca_vr (l:Ab.Row): ∀e∈(l.map vr).flatten,e.sca=true:=fun e h=>by
 obtain ⟨x,h1,h2⟩:=List.mem_flatten.1 h
 obtain ⟨p,_,rfl⟩:=List.mem_map.1 h1
 simp only [List.mem_cons,List.not_mem_nil,or_false] at h2
 rcases h2 with rfl | rfl <;>rfl
theorem len_vr (l:Ab.Row): ∀e∈l.map vr,e.length=2:=fun e h=>by
 obtain ⟨p,_,rfl⟩:=List.mem_map.1 h
 rfl
theorem mark81 (r:Row) (k:Int) (hk:0<=k) (hk2:k+2 * r.2.length<=140737488355328):MarkC Tryz.prog 54 id (fse r) (fse (r.1,mk2 k r.2)) k (k+2 * r.2.length):=by
 refine markLeaf (k:=2) (sca_vr _) (sca_vr _) (by simp [mk2_len]) (len_vr _) (okV_int hk (by omega)) (fun h=>?_) (fun _ _=>?_) (len_vr _)
 ·have h:r.2= []:=by simpa using h
  rw [h]
  have:=ok54z k hk (by omega)
  simpa using this
 ·have:=ok54 r.2 (r.2.map vr) rfl k hk (by simpa using hk2)
  simp only [List.length_map] at this ⊢
  exact this
theorem res_side {n k:Nat} {z z':Int} {xs xs':List E} {R R':World->Value->List Nat->Prop} :Side (fun t=> [.vec (t 0) n k,.int z]) (fun _=> [.vec true k (xs.map .e),.res R]) (fun _=> .int z') (fun _=> [.vec true k (xs'.map .e),.res R']):=
 ⟨fun t=>rfl,rfl,fun t=>by simp only [List.map_cons,List.map_nil,O.ren,rens_e],by intro o ho;simp only [List.mem_cons,List.not_mem_nil,or_false] at ho;rcases ho with rfl | rfl <;>simp only [O.lt,lts_e],fun t=>rfl,fun t=>by simp only [List.map_cons,List.map_nil,O.ren,rens_e],Nat.le_refl _⟩
theorem w50 (L:List Row) (vs:List Value) (hv:vs.length=L.length) (k:Int) (hk:0<=k) (hk2:k+cnt L<=140737488355328) (hlen:L.length<=1048576):
  Proc Tryz.prog 22 (fun t=> [.vec (t 0) L.length 1,.int k]) (fun _=> [.vec true 1 ((vs.map E.v).map .e),.res (Trees vs (L.map fse))]) (fun _=> .int (k+cnt L)) (fun _=> [.vec true 1 ((vs.map E.v).map .e),.res (Trees vs ((mkR k L).map fse))]):=procOf mixed p22 res_side fun A P hA hP=>(by
 obtain ⟨kr,hkr⟩: ∃r,r=k+cnt L:=⟨_,rfl⟩
 obtain ⟨n,hn⟩: ∃n,n=L.length:=⟨_,rfl⟩
 obtain ⟨ds,hds⟩: ∃ds:List D,ds=(vs.map E.v).map .e:=⟨_,rfl⟩
 have hdl:ds.length=n:=by rw [hds,hn,<-hv];simp
 obtain ⟨R0,hR0⟩: ∃R,R=Trees vs (L.map fse):=⟨_,rfl⟩
 obtain ⟨RF,hRF⟩: ∃R,R=Trees vs ((mkR k L).map fse):=⟨_,rfl⟩
 rw [<-hkr,<-hn,<-hds,<-hR0,<-hRF]
 cbv
 repeat' first | exact W1 | refine WA ?_ ?_ | with_reducible intro hcc | refine WS ?_ | refine W6 ?_ | ((with_reducible first | refine hA.Len fun z hz hb=>?_ | refine hA.Off fun b hb=>?_);cbv) | ((with_reducible first | refine hA.Sapp ?_ fun sl hsl=>?_);rotate_left;cbv) | refine WL ?_ | fail
 all_goals try simp only [hA.sm,n_cast] at *
 all_goals try omega
 refine hA.loopI (fun m s=> ∃(i k1:Int) (ts:List E),0<=i/\m+i=n/\k1=k+cnt L-cnt (L.drop i.toNat)/\ts.length=n/\(∀j:Nat,j<i->ts[j]?=((mkR k L).map fse)[j]?)/\(∀j:Nat,i<=j->ts[j]?=(L.map fse)[j]?)/\
    s=⟨[(5,.int i),(0,.vec 0 n 1),(1,.int k1)], [.vec true 1 ds,.res (Trees vs ts)]⟩) n _
   (Weak.keep (env':= [(5,.int 0),(0,.vec 0 n 1),(1,.int k)]) ⟨rfl,rfl,rfl,trivial⟩)
   ⟨0,k,L.map fse,by omega,by omega,(by rw [show (0:Int).toNat=0 from rfl,List.drop_zero];omega),by rw [List.length_map,hn],(fun j hj=>by omega),fun j _=>rfl,by rw [hR0]⟩ ?_
 rintro m s K' ⟨i,k1,ts,h0,h1,hk1,h2,h3,h4,rfl⟩ hK
 obtain ⟨R1,hR1⟩: ∃R,R=Trees vs ts:=⟨_,rfl⟩
 rw [<-hR1]
 by_cases hin:(0:Int)<=i/\i<n
 ·have e1:A.lt i (Int.ofNat n)=true:=by rw [hA.lt,Int.ofNat_eq_natCast];exact decide_eq_true (by omega)
  obtain ⟨r,hr⟩: ∃r,L[i.toNat]?=some r:=⟨_,List.getElem?_eq_getElem (by omega)⟩
  obtain ⟨v,hvi⟩: ∃v,vs[i.toNat]?=some v:=⟨_,List.getElem?_eq_getElem (by omega)⟩
  have hdr:=cnt_drop hr
  have hc0:=cnt_nonneg (L.drop (i.toNat+1))
  have hc1:=cnt_nonneg L
  have hcd:cnt (L.drop i.toNat)<=cnt L:=cnt_le L i.toNat
  have ld: ∀ {b:Nat} {c:D},b=0+i.toNat * 1->c=ds.getD b default->c= .e (.v v):=fun {b c} q1 q2=>by
   rw [q2,hds,show b=i.toNat by omega,List.getD,List.getElem?_map,List.getElem?_map,hvi]
   rfl
  obtain ⟨k2,hk2'⟩: ∃k,k=k1+2 * (r.2.length:Int):=⟨_,rfl⟩
  have hmk:=mark81 r k1 (by omega) (by omega)
  rw [<-hk2'] at hmk
  have hti:ts[i.toNat]?=some (fse r):=by rw [h4 i.toNat (by omega),List.getElem?_map,hr];rfl
  obtain ⟨R2,hR2⟩: ∃R,R=Trees vs (ts.set i.toNat (fse (r.1,mk2 k1 r.2))):=⟨_,rfl⟩
  have hcal: ∀f,CallE Tryz.prog 54 [.e (.v v),.int k1] [(1,.res R1)] f {d:=some (.int k2),wr:= [(1,.res R2)],tc:= [1]} :=fun f=>by
   rw [hR1,hR2]
   exact hmk.callEs hvi hti rfl rfl
  have hK2: ∀(env:List (Nat×D)),subL [(5,.int (i+1)),(0,.vec 0 n 1),(1,.int k2)] env->K' ⟨env, [.vec true 1 ds,.res R2]⟩:=fun env q5=>by
   refine hK _ (m-1) _ (by omega) (Weak.keep q5) ⟨i+1,k2,_,by omega,by omega,?_,?_,fun j hj=>?_,fun j hj=>?_,by rw [hR2]⟩
   ·rw [show (i+1).toNat=i.toNat+1 by omega];omega
   ·rw [List.length_set];exact h2
   ·by_cases hji:(j:Int)<i
    ·rw [List.getElem?_set_ne (show i.toNat≠j by omega)];exact h3 j hji
    ·have:j=i.toNat:=by omega
     subst this
     rw [List.getElem?_set_self (by omega),List.getElem?_map,mkR_get _ _ _ _ hr,hk1]
     rfl
   ·rw [List.getElem?_set_ne (show i.toNat≠j by omega)];exact h4 j (by omega)
  clear hK h3 h4 hti hmk hk1 hdr hk2' hR1 hR2
  cbv
  repeat' first | exact W1 | (simp only [e1];cbv) | refine WA ?_ ?_ | with_reducible intro hcc | refine WS ?_ | ((with_reducible show A.call _ _ _ _ _ 54 _ _ _);refine callK_res hA hP rfl ?_ hcal;cbv) | ((with_reducible refine hA.ld1 _ _ _ ⟨?_,fun c hc=>?_⟩);rotate_left;(have e9:=ld hb hc);subst e9;cbv) | refine W6 ?_ | ((with_reducible first | refine hA.Len fun z hz hb=>?_ | refine hA.Off fun b hb=>?_);cbv) | ((with_reducible first | refine hA.Sapp ?_ fun sl hsl=>?_);rotate_left;cbv) | refine WL ?_ | fail
  all_goals try simp only [hA.sm,n_cast] at *
  all_goals first
   | omega
   | exact hK2 _ ⟨rfl,rfl,rfl,trivial⟩
   | exact finv_refl hA
 ·have e1:A.lt i (Int.ofNat n)=false:=by rw [hA.lt,Int.ofNat_eq_natCast];exact decide_eq_false (by omega)
  have hte:ts=(mkR k L).map fse:=by
   refine List.ext_getElem? fun j=>?_
   by_cases hj:(j:Int)<i
   ·exact h3 j hj
   ·rw [List.getElem?_eq_none (by omega),List.getElem?_eq_none (by rw [List.length_map,mkR_len];omega)]
  have hRR:R1=RF:=by rw [hR1,hRF,hte]
  have hkk:k1=kr:=by
   rw [List.drop_eq_nil_of_le (by omega)] at hk1
   simp only [cnt] at hk1
   omega
  subst hRR hkk
  clear hK h3 h4
  cbv
  repeat' first | exact W1 | (simp only [e1];cbv) | refine WA ?_ ?_ | with_reducible intro hcc | refine WS ?_ | refine W6 ?_ | ((with_reducible first | refine hA.Len fun z hz hb=>?_ | refine hA.Off fun b hb=>?_);cbv) | ((with_reducible first | refine hA.Sapp ?_ fun sl hsl=>?_);rotate_left;cbv) | refine WL ?_ | fail
  all_goals try simp only [hA.sm,n_cast] at *
  all_goals first
   | omega
   | exact finv_refl hA)
theorem ok22z (k:Int) (hk:0<=k) (hk2:k<=140737488355328):Plain Tryz.prog 22 [.e (.sl []),.int k] (.int k):=okOf mixed p22 fun A P hA hP=>(by
 obtain ⟨es,hes⟩: ∃es:List (List E),es= []:=⟨_,rfl⟩
 have hl:es.length=0:=by rw [hes];rfl
 obtain ⟨i0,hi0⟩: ∃i:Int,i=0:=⟨_,rfl⟩
 obtain ⟨z1,hz1⟩: ∃z:Int,z=es.length:=⟨_,rfl⟩
 rw [<-hes]
 cbv
 repeat' first | exact W1 | refine WA ?_ ?_ | with_reducible intro hcc | refine WS ?_ | refine W6 ?_ | ((with_reducible first | refine hA.Len fun z hz hb=>?_ | refine hA.Off fun b hb=>?_);cbv) | ((with_reducible first | refine hA.Sapp ?_ fun sl hsl=>?_);rotate_left;cbv) | refine WL ?_ | fail
 all_goals try simp only [hA.sm,n_cast] at *
 all_goals try omega
 refine hA.loopI (fun m s=>s=⟨[(5,.int i0),(0,.e (.sl es)),(1,.int k)], []⟩) 0 _
   (Weak.keep (env':= [(5,.int i0),(0,.e (.sl es)),(1,.int k)]) ⟨by rw [hi0];rfl,rfl,rfl,trivial⟩) rfl ?_
 rintro m s K' rfl hK
 have e1:A.lt i0 z1=false:=by rw [hA.lt];exact decide_eq_false (by omega)
 cbv
 repeat' first | exact W1 | (simp only [e1];cbv) | refine WA ?_ ?_ | with_reducible intro hcc | refine WS ?_ | (refine hA.LenE hz1 fun hb=>?_;cbv) | refine W6 ?_ | ((with_reducible first | refine hA.Len fun z hz hb=>?_ | refine hA.Off fun b hb=>?_);cbv) | ((with_reducible first | refine hA.Sapp ?_ fun sl hsl=>?_);rotate_left;cbv) | refine WL ?_ | fail
 all_goals try simp only [hA.sm,n_cast] at *
 all_goals first
  | omega)
theorem ok22 (L:List Row) (n:Nat) (k:Int) (hk:0<=k) (hk2:k+cnt L<=140737488355328) (hlen:L.length<=1048576):MarkC Tryz.prog 22 id (.fs n (L.map nrow)) (.fs n ((mkR k L).map nrow)) k (k+cnt L):=by
 have h0:=cnt_nonneg L
 have hs: ∀(L:List Row) (j:Nat),((L.map nrow).flatten[j]?).map E.sca=(L[j]?).map fun _=>false:=fun L j=>by
  rw [flat_nrow,List.getElem?_map,Option.map_map]
  rfl
 have hk1: ∀(L:List Row),∀e∈L.map nrow,e.length=1:=fun L e h=>by
  obtain ⟨p,_,rfl⟩:=List.mem_map.1 h
  rfl
 refine markOuter (k:=1) (fun j=>?_) (by simp [mkR_len]) (hk1 _) (okV_int hk (by omega)) (fun h=>?_) (fun _ _ vs hvs=>?_) (hk1 _)
 ·rw [hs,hs]
  by_cases hj:j<L.length
  ·rw [List.getElem?_eq_getElem (l:=L) hj,List.getElem?_eq_getElem (l:=mkR k L) (by rw [mkR_len];exact hj)]
   rfl
  ·rw [List.getElem?_eq_none (l:=L) (by omega),List.getElem?_eq_none (l:=mkR k L) (by rw [mkR_len];omega)]
 ·have h:L= []:=by simpa using h
  rw [h]
  have:=ok22z k hk (by omega)
  simpa [cnt] using this
 ·rw [flat_nrow,List.length_map] at hvs
  have:=w50 L vs hvs k hk hk2 hlen
  rw [flat_nrow,flat_nrow,trk_fse,trk_fse,cells_fse _ _ hvs,cells_fse _ _ (hvs.trans (mkR_len _ _).symm),List.length_map]
  rw [List.map_map] at this
  exact this
end Go.Proofs.YtfplalbognalkaaGreat.Ab.NS
/- Marks in flat plans: what they are. -/
namespace Go.Proofs.YtfplalbognalkaaGreat.Ab
open Go
def mkL {α:Type} (f:Int->α->α) (c:α->Int):Int->List α->List α
 | _, []=> []
 | k,a::l=>f k a::mkL f c (k+c a) l
theorem mkL_len {α:Type} (f:Int->α->α) (c:α->Int): ∀(k:Int) (l:List α),(mkL f c k l).length=l.length
 | _, []=>rfl
 | k,a::l=>by simp [mkL,mkL_len f c _ l]
theorem mkL_get {α:Type} (f:Int->α->α) (c:α->Int): ∀(k:Int) (l:List α) (i:Nat) (a:α),l[i]?=some a->(mkL f c k l)[i]?=some (f (k+sumC c l-sumC c (l.drop i)) a)
 | _, [],_,_,h=>by simp at h
 | k,b::l,0,a,h=>by
  simp at h
  subst h
  simp only [mkL,List.getElem?_cons_zero,List.drop_zero]
  rw [show k+sumC c (b::l)-sumC c (b::l)=k by omega]
 | k,b::l,i+1,a,h=>by
  rw [mkL,List.getElem?_cons_succ,mkL_get f c _ l i a (by simpa using h),List.drop_succ_cons]
  simp only [sumC]
  rw [show k+c b+sumC c l-sumC c (l.drop i)=k+(c b+sumC c l)-sumC c (l.drop i) by omega]
theorem sumC_le {α:Type} {c:α->Int} (h: ∀a,0<=c a): ∀(l:List α) (i:Nat),sumC c (l.drop i)<=sumC c l
 | [],i=>by rw [List.drop_nil];exact Int.le_refl _
 | a::l,0=>Int.le_refl _
 | a::l,i+1=>by
  have:=sumC_le h l i
  have:=h a
  rw [List.drop_succ_cons]
  simp only [sumC]
  omega
abbrev Nx:=Nat×List (Int×Int)
def eX (x:Nx):E:= .fs x.1 (x.2.map orow)
def mkOp (k:Int) (_:Int×Int):Int×Int:=(k,k+1)
def cOp (_:Int×Int):Int:=2
def mkX (k:Int) (x:Nx):Nx:=(x.1,mkL mkOp cOp k x.2)
def cX (x:Nx):Int:=sumC cOp x.2
theorem cOp_sum: ∀l:List (Int×Int),sumC cOp l=2 * l.length
 | []=>rfl
 | a::l=>by simp only [sumC,cOp_sum l,cOp,List.length_cons];omega
theorem cX_len (x:Nx):cX x=2 * x.2.length:=cOp_sum _
theorem cX_nonneg (x:Nx):0<=cX x:=by rw [cX_len];omega
abbrev Nxs:=Nat×List Nx
abbrev xrow (x:Nx):List E:= [eX x]
def eXs (x:Nxs):E:= .fs x.1 (x.2.map xrow)
def mkXs (k:Int) (x:Nxs):Nxs:=(x.1,mkL mkX cX k x.2)
def cXs (x:Nxs):Int:=sumC cX x.2
theorem cXs_nonneg (x:Nxs):0<=cXs x:=sumC_nonneg cX_nonneg _
structure Nf where
 K:Int
 T:Int
 M:Int
 W:Int
 Ex:Nx
 Exs:Nxs
 L:Int
 R:Int
 deriving Inhabited
abbrev nfr (n:Nf):List E:= [E.int n.K,E.int n.T,E.int n.M,E.int n.W,eX n.Ex,eXs n.Exs,E.int n.L,E.int n.R]
def Nf.d (n:Nf):Fd:=⟨n.K,n.T,n.M,n.W,n.Ex.2,n.Exs.2.map Prod.snd,n.L,n.R⟩
def cF (n:Nf):Int:=6+cX n.Ex+cXs n.Exs
theorem cF_nonneg (n:Nf):0<=cF n:=by have:=cX_nonneg n.Ex;have:=cXs_nonneg n.Exs;unfold cF;omega
def mkF (k:Int) (n:Nf):Nf:=⟨k,k+1,k+2,k+3,mkX (k+4) n.Ex,mkXs (k+4+cX n.Ex) n.Exs,k+4+cX n.Ex+cXs n.Exs,k+4+cX n.Ex+cXs n.Exs+1⟩
def eFs (i:Nat) (l:List Nf):E:= .fs i (l.map nfr)
theorem unss_orow (l:List (Int×Int)):unss (l.map orow)=l.map orow:=by
 rw [unss_map,List.map_map]
 rfl
theorem eX_un (x:Nx):(eX x).un= .sl (x.2.map orow):=by rw [eX,E.un,unss_orow]
theorem eXs_un (x:Nxs):(eXs x).un= .sl ((x.2.map Prod.snd).map orr):=by
 rw [eXs,E.un,unss_map,List.map_map,List.map_map]
 congr 1
 refine List.map_congr_left fun r _=>?_
 simp only [Function.comp,List.map_cons,List.map_nil,eX_un]
theorem eFs_un (i:Nat) (l:List Nf):(eFs i l).un= .sl (l.map fun n=>fdr n.d):=by
 rw [eFs,E.un,unss_map,List.map_map]
 congr 1
 refine List.map_congr_left fun r _=>?_
 simp only [Function.comp,List.map_cons,List.map_nil,eX_un,eXs_un,Nf.d]
 rfl
theorem set_flat {α:Type} {k i c:Nat} {xs:List (List α)} {r:List α} (a:α) (hk: ∀e∈xs,e.length=k) (hi:xs[i]?=some r) (hc:c<k):xs.flatten.set (i * k+c) a=(xs.set i (r.set c a)).flatten:=NS.flat_set a hk hi hc
structure VS (k:Nat) (vs:List Value) (xs:List (List E)) (ds:List D) (R:World->Value->List Nat->Prop):Prop where
 hk: ∀e∈xs,e.length=k
 hv:vs.length=xs.flatten.length
 hd:ds=cells vs xs.flatten
 hR:R=Trees vs (xs.flatten.map trk)
theorem VS.len {k:Nat} {vs:List Value} {xs:List (List E)} {ds:List D} {R} (h:VS k vs xs ds R):ds.length=xs.length * k:=by rw [h.hd,cells_len h.hv,flatten_len h.hk]
theorem VS.setk {k:Nat} {xs:List (List E)} {i c:Nat} {r:List E} {a:E} (hk: ∀e∈xs,e.length=k) (hi:xs[i]?=some r): ∀e∈xs.set i (r.set c a),e.length=k:=fun e h=>by
 rcases List.mem_or_eq_of_mem_set h with h | rfl
 ·exact hk e h
 ·rw [List.length_set];exact hk r (List.mem_of_getElem? hi)
theorem VS.at {k:Nat} {vs:List Value} {xs:List (List E)} {ds:List D} {R} (h:VS k vs xs ds R) {i c:Nat} {r:List E} {e:E} (hi:xs[i]?=some r) (hc:r[c]?=some e):xs.flatten[i * k+c]?=some e/\i * k+c<xs.flatten.length:=by
 have hck:c<k:=by rw [<-h.hk r (List.mem_of_getElem? hi)];exact (List.getElem?_eq_some_iff.1 hc).1
 have:=flatten_get h.hk i r c hi hck
 rw [hc] at this
 exact ⟨this,(List.getElem?_eq_some_iff.1 this).1⟩
theorem VS.st {k:Nat} {vs:List Value} {xs:List (List E)} {ds ds':List D} {R} (h:VS k vs xs ds R) {i c off:Nat} {r:List E} {x x':Value} (hi:xs[i]?=some r) (hc:r[c]?=some (.v x)) (ho:off=i * k+c) (hs:ds'=ds.take off++ [.e (.v x')]++ds.drop (off+1)):
  VS k vs (xs.set i (r.set c (.v x'))) ds' R:=by
 obtain ⟨h1,h2⟩:=h.at hi hc
 have hck:c<k:=by rw [<-h.hk r (List.mem_of_getElem? hi)];exact (List.getElem?_eq_some_iff.1 hc).1
 have hfl:=set_flat (.v x':E) h.hk hi hck
 refine ⟨VS.setk h.hk hi,by rw [<-hfl,List.length_set];exact h.hv,?_,?_⟩
 ·rw [<-hfl,hs,<-ho,ho]
  refine List.ext_getElem? fun j=>?_
  have hdl:ds.length=xs.flatten.length:=by rw [h.hd,cells_len h.hv]
  have hset:ds.take (i * k+c)++ [D.e (.v x')]++ds.drop (i * k+c+1)=ds.set (i * k+c) (.e (.v x')):=by
   rw [List.set_eq_take_append_cons_drop,if_pos (by omega)]
   simp
  rw [hset,cells,List.getElem?_zipWith,h.hd,cells]
  by_cases q:j=i * k+c
  ·subst q
   rw [List.getElem?_set_self (by rw [List.length_zipWith,h.hv,Nat.min_self];exact h2),List.getElem?_set_self h2,List.getElem?_eq_getElem (by rw [h.hv];exact h2)]
   rfl
  ·rw [List.getElem?_set_ne (Ne.symm q),List.getElem?_set_ne (Ne.symm q),List.getElem?_zipWith]
 ·rw [h.hR,<-hfl]
  congr 1
  refine List.ext_getElem? fun j=>?_
  rw [List.getElem?_map,List.getElem?_map]
  by_cases q:j=i * k+c
  ·subst q
   rw [List.getElem?_set_self h2,h1]
   rfl
  ·rw [List.getElem?_set_ne (Ne.symm q)]
theorem VS.ld {k:Nat} {vs:List Value} {xs:List (List E)} {ds:List D} {R} (h:VS k vs xs ds R) {i c:Nat} {r:List E} {e:E} (hi:xs[i]?=some r) (hc:r[c]?=some e) (hs:e.sca=false): ∃v,vs[i * k+c]?=some v/\ds[i * k+c]?=some (.e (.v v)):=by
 obtain ⟨h1,h2⟩:=h.at hi hc
 obtain ⟨v,hv⟩: ∃v,vs[i * k+c]?=some v:=⟨_,List.getElem?_eq_getElem (by rw [h.hv];exact h2)⟩
 refine ⟨v,hv,?_⟩
 rw [h.hd,cells_get hv h1]
 cases e <;>first | rfl | simp [E.sca] at hs
theorem VS.mark {k:Nat} {vs:List Value} {xs:List (List E)} {ds:List D} {R} (h:VS k vs xs ds R) {i c:Nat} {r:List E} {e e':E} {v:Value} {P:Program} {fn:FuncId} {z z':Int} (hi:xs[i]?=some r) (hc:r[c]?=some e) (hs:e.sca=false) (hs':e'.sca=false) (hv:vs[i * k+c]?=some v) (hm:MarkC P fn id e e' z z'):
  ∃R',VS k vs (xs.set i (r.set c e')) ds R'/\ ∀(j f:Nat),CallE P fn [.e (.v v),.e (.v (.int .i64 z))] [(j,.res R)] f {d:=some (.e (.v (.int .i64 z'))),wr:= [(j,.res R')],tc:= [j]} :=by
 obtain ⟨h1,h2⟩:=h.at hi hc
 have hck:c<k:=by rw [<-h.hk r (List.mem_of_getElem? hi)];exact (List.getElem?_eq_some_iff.1 hc).1
 have hfl:=set_flat e' h.hk hi hck
 refine ⟨Trees vs ((xs.set i (r.set c e')).flatten.map trk),⟨VS.setk h.hk hi,by rw [<-hfl,List.length_set];exact h.hv,?_,rfl⟩,fun j f=>?_⟩
 ·rw [<-hfl,h.hd]
  refine List.ext_getElem? fun j=>?_
  rw [cells,cells,List.getElem?_zipWith,List.getElem?_zipWith]
  by_cases q:j=i * k+c
  ·subst q
   rw [List.getElem?_set_self h2,h1,hv]
   cases e <;>first | (simp [E.sca] at hs;done) | (cases e' <;>first | rfl | (simp [E.sca] at hs';done))
  ·rw [List.getElem?_set_ne (Ne.symm q)]
 ·rw [h.hR,<-hfl,List.map_set,trk_of hs']
  exact hm.callEs hv (by rw [List.getElem?_map,h1,Option.map_some,trk_of hs]) hs hs'
end Go.Proofs.YtfplalbognalkaaGreat.Ab
/- Marks in expressions, walked. -/
namespace Go.Proofs.YtfplalbognalkaaGreat.Ab
open Go
def c95:F:=⟨27, [(.tmp 4)],(.seq (.reg [ZA 4 (.mov (.c (.int 0)))]) (.seq (.seq (.reg [ZA 5 (.mov (.c (.int 0)))]) (.block 0 (.loop (.seq (.seq (.reg [ZM 6 5,ZM 7 0,ZA 8 (.lenl 7),ZA 9 (.bin .lss 6 8)]) (.cond 9 .skip (.exit 0))) (.seq (.block 1 (.seq (.reg [ZM 12 0,ZM 13 5,ZM 14 1,ZA 15 (.iadr none 2 12 13),ZE 16 0 15,ZN (.store false 1 16 14)]) (.seq (.reg [ZM 17 1,ZA 18 (.bin .add 17 (.c (.int 1))),ZM 1 18]) (.seq (.reg [ZM 19 0,ZM 20 5,ZM 21 1,ZA 22 (.iadr none 2 19 20),ZE 23 1 22,ZN (.store false 1 23 21)]) (.reg [ZM 24 1,ZA 25 (.bin .add 24 (.c (.int 1))),ZM 1 25]))))) (.reg [ZM 10 5,ZA 11 (.bin .add 10 (.c (.int 1))),ZM 5 11])))))) (.seq (.reg [ZM 26 1,ZM 4 26]) .ret)))⟩
theorem p95:prepF Tryz.prog 95=some c95:=by kernel_rfl
def c96:F:=⟨19, [(.tmp 4)],(.seq (.reg [ZA 4 (.mov (.c (.int 0)))]) (.seq (.seq (.reg [ZA 5 (.mov (.c (.int 0)))]) (.block 0 (.loop (.seq (.seq (.reg [ZM 6 5,ZM 7 0,ZA 8 (.lenl 7),ZA 9 (.bin .lss 6 8)]) (.cond 9 .skip (.exit 0))) (.seq (.block 1 (.reg [ZM 12 0,ZM 13 5,ZA 14 (.iadr none 1 12 13),ZL 15 14,ZM 16 1,ZC 17 95 [15,16],ZM 1 17])) (.reg [ZM 10 5,ZA 11 (.bin .add 10 (.c (.int 1))),ZM 5 11])))))) (.seq (.reg [ZM 18 1,ZM 4 18]) .ret)))⟩
theorem p96:prepF Tryz.prog 96=some c96:=by kernel_rfl
theorem ok95 (l:List (Int×Int)) (es:List (List E)) (he:es=l.map orow) (k:Int) (hk:0<=k) (hk2:k+2 * es.length<=140737488355328):
  Proc Tryz.prog 95 (fun t=> [.vec (t 0) es.length 2,.int k]) (fun _=> [.vec true 2 (es.flatten.map .e)]) (fun _=> .int (k+2 * es.length)) (fun _=> [.vec true 2 (((mkL mkOp cOp k l).map orow).flatten.map .e)]):=procOf mixed p95 NS.vec_side fun A P hA hP=>(by
 have hl1:es.length=l.length:=by rw [he];simp
 have hes: ∀e∈es,e.length=2:=by
  rw [he]
  intro e h
  obtain ⟨p,_,rfl⟩:=List.mem_map.1 h
  rfl
 obtain ⟨ts,hts⟩: ∃ts,ts=(mkL mkOp cOp k l).map orow:=⟨_,rfl⟩
 have htl:ts.length=es.length:=by rw [hts,hl1,List.length_map,mkL_len]
 have htg: ∀i:Nat,i<es.length->ts[i]?=some [E.int (k+2 * i),E.int (k+2 * i+1)]:=fun i h=>by
  obtain ⟨a,ha⟩: ∃a,l[i]?=some a:=⟨_,List.getElem?_eq_getElem (by omega)⟩
  rw [hts,List.getElem?_map,mkL_get mkOp cOp k l i a ha,cOp_sum,cOp_sum,List.length_drop]
  have:k+2 * (l.length:Int)-2 * ((l.length-i:Nat):Int)=k+2 * i:=by omega
  rw [this]
  rfl
 obtain ⟨kr,hkr⟩: ∃r,r=k+2 * (es.length:Int):=⟨_,rfl⟩
 obtain ⟨n,hn⟩: ∃n,n=es.length:=⟨_,rfl⟩
 obtain ⟨ys0,hys0⟩: ∃ys,ys=es.flatten.map D.e:=⟨_,rfl⟩
 obtain ⟨zs,hzs⟩: ∃zs,zs=ts.flatten.map D.e:=⟨_,rfl⟩
 rw [<-hts,<-hkr,<-hzs,<-hn,<-hys0]
 cbv
 repeat' first | exact W1 | refine WA ?_ ?_ | with_reducible intro hcc | refine WS ?_ | refine W6 ?_ | ((with_reducible first | refine hA.Len fun z hz hb=>?_ | refine hA.Off fun b hb=>?_ | refine hA.Plus fun b hb=>?_);cbv) | ((with_reducible first | refine hA.Sto ?_ fun ds hds=>?_ | refine hA.Sapp ?_ fun sl hsl=>?_);rotate_left;cbv) | refine WL ?_ | fail
 all_goals try simp only [hA.sm,n_cast] at *
 all_goals try omega
 refine hA.loopI (fun m s=> ∃(i k1:Int) (xs:List (List E)),0<=i/\m+i=n/\k1=k+2 * i/\xs.length=n/\(∀e∈xs,e.length=2)/\(∀j:Nat,j<i->xs[j]?=ts[j]?)/\
    s=⟨[(5,.int i),(0,.vec 0 n 2),(1,.int k1)], [.vec true 2 (xs.flatten.map .e)]⟩) n _
   (Weak.keep (env':= [(5,.int 0),(0,.vec 0 n 2),(1,.int k)]) ⟨rfl,rfl,rfl,trivial⟩)
   ⟨0,k,es,by omega,by omega,by omega,by omega,hes,fun j hj=>by omega,by rw [hys0]⟩ ?_
 rintro m s K' ⟨i,k1,xs,h0,h1,hk1,h2,h3,h4,rfl⟩ hK
 obtain ⟨ys,hys⟩: ∃ys,ys=xs.flatten.map D.e:=⟨_,rfl⟩
 have hyl:ys.length=xs.length * 2:=by rw [hys,List.length_map,flatten_len h3]
 rw [<-hys]
 by_cases hin:(0:Int)<=i/\i<n
 ·have e1:A.lt i (Int.ofNat n)=true:=by rw [hA.lt,Int.ofNat_eq_natCast];exact decide_eq_true (by omega)
  have hK2: ∀(b c:Nat) (ds1 ds2:List D) (env:List (Nat×D)),ds2=ds1.take c++ [.e (E.int (k1+1))]++ds1.drop (c+1)->ds1=ys.take b++ [.e (E.int k1)]++ys.drop (b+1)->b=0+i.toNat * 2->c=0+i.toNat * 2+1->
    subL [(5,.int (i+1)),(0,.vec 0 n 2),(1,.int (k1+1+1))] env->K' ⟨env, [.vec true 2 ds2]⟩:=fun b c ds1 ds2 env q4 q3 q1 q2 q5=>by
   obtain ⟨r,hr⟩: ∃r,xs[i.toNat]?=some r:=⟨_,List.getElem?_eq_getElem (by omega)⟩
   have hrl:=h3 r (List.mem_of_getElem? hr)
   have d1:=NS.cells_set hys h3 hr (c:=0) (by omega) (by omega) q3
   have h3': ∀e∈xs.set i.toNat (r.set 0 (E.int k1)),e.length=2:=VS.setk h3 hr
   have d2:=NS.cells_set d1 h3' (List.getElem?_set_self (by omega)) (c:=1) (by omega) (by omega) q4
   rw [List.set_set] at d2
   have hrow:(r.set 0 (E.int k1)).set 1 (E.int (k1+1))= [E.int k1,E.int (k1+1)]:=by
    match r,hrl with
    | [x,y],_=>rfl
   rw [hrow] at d2
   refine hK _ (m-1) _ (by omega) (Weak.keep q5) ⟨i+1,k1+1+1,xs.set i.toNat [E.int k1,E.int (k1+1)],by omega,by omega,by omega,by rw [List.length_set];exact h2,fun e h=>?_,fun j hj=>?_,by rw [d2]⟩
   ·rcases List.mem_or_eq_of_mem_set h with h | rfl
    ·exact h3 e h
    ·rfl
   ·by_cases hji:(j:Int)<i
    ·rw [List.getElem?_set_ne (show i.toNat≠j by omega)];exact h4 j hji
    ·have:j=i.toNat:=by omega
     subst this
     rw [List.getElem?_set_self (by omega),htg _ (by omega),hk1,show k+2 * i=k+2 * ((i.toNat:Nat):Int) by omega]
  clear hK h4 htg hts he
  cbv
  repeat' first | exact W1 | (simp only [e1];cbv) | refine WA ?_ ?_ | with_reducible intro hcc | refine WS ?_ | refine W6 ?_ | ((with_reducible first | refine hA.Len fun z hz hb=>?_ | refine hA.Off fun b hb=>?_ | refine hA.Plus fun b hb=>?_);cbv) | ((with_reducible first | refine hA.Sto ?_ fun ds hds=>?_ | refine hA.Sapp ?_ fun sl hsl=>?_);rotate_left;cbv) | refine WL ?_ | fail
  all_goals try simp only [hA.sm,n_cast] at *
  all_goals first
   | omega
   | exact hK2 _ _ _ _ _ (by assumption) (by assumption) (by omega) (by omega) ⟨rfl,rfl,rfl,trivial⟩
   | exact finv_refl hA
   | (subst_vars;simp only [List.length_append,List.length_take,List.length_drop,List.length_cons,List.length_nil];omega)
 ·have e1:A.lt i (Int.ofNat n)=false:=by rw [hA.lt,Int.ofNat_eq_natCast];exact decide_eq_false (by omega)
  have hxe:xs=ts:=by
   refine List.ext_getElem? fun j=>?_
   by_cases hj:(j:Int)<i
   ·exact h4 j hj
   ·rw [List.getElem?_eq_none (by omega),List.getElem?_eq_none (by omega)]
  have hyz:ys=zs:=by rw [hys,hzs,hxe]
  have hkk:k1=kr:=by omega
  subst hyz hkk
  clear hK h4 htg hts he
  cbv
  repeat' first | exact W1 | (simp only [e1];cbv) | refine WA ?_ ?_ | with_reducible intro hcc | refine WS ?_ | refine W6 ?_ | ((with_reducible first | refine hA.Len fun z hz hb=>?_ | refine hA.Off fun b hb=>?_ | refine hA.Plus fun b hb=>?_);cbv) | ((with_reducible first | refine hA.Sto ?_ fun ds hds=>?_ | refine hA.Sapp ?_ fun sl hsl=>?_);rotate_left;cbv) | refine WL ?_ | fail
  all_goals try simp only [hA.sm,n_cast] at *
  all_goals first
   | omega
   | exact finv_refl hA)
theorem ok95z (k:Int) (hk:0<=k) (hk2:k<=140737488355328):Plain Tryz.prog 95 [.e (.sl []),.int k] (.int k):=okOf mixed p95 fun A P hA hP=>(by
 obtain ⟨es,hes⟩: ∃es:List (List E),es= []:=⟨_,rfl⟩
 have hl:es.length=0:=by rw [hes];rfl
 obtain ⟨i0,hi0⟩: ∃i:Int,i=0:=⟨_,rfl⟩
 obtain ⟨z1,hz1⟩: ∃z:Int,z=es.length:=⟨_,rfl⟩
 rw [<-hes]
 cbv
 repeat' first | exact W1 | refine WA ?_ ?_ | with_reducible intro hcc | refine WS ?_ | refine W6 ?_ | ((with_reducible first | refine hA.Len fun z hz hb=>?_ | refine hA.Off fun b hb=>?_ | refine hA.Plus fun b hb=>?_);cbv) | ((with_reducible first | refine hA.Sto ?_ fun ds hds=>?_ | refine hA.Sapp ?_ fun sl hsl=>?_);rotate_left;cbv) | refine WL ?_ | fail
 all_goals try simp only [hA.sm,n_cast] at *
 all_goals try omega
 refine hA.loopI (fun m s=>s=⟨[(5,.int i0),(0,.e (.sl es)),(1,.int k)], []⟩) 0 _
   (Weak.keep (env':= [(5,.int i0),(0,.e (.sl es)),(1,.int k)]) ⟨by rw [hi0];rfl,rfl,rfl,trivial⟩) rfl ?_
 rintro m s K' rfl hK
 have e1:A.lt i0 z1=false:=by rw [hA.lt];exact decide_eq_false (by omega)
 cbv
 repeat' first | exact W1 | (simp only [e1];cbv) | refine WA ?_ ?_ | with_reducible intro hcc | refine WS ?_ | (refine hA.LenE hz1 fun hb=>?_;cbv) | refine W6 ?_ | ((with_reducible first | refine hA.Len fun z hz hb=>?_ | refine hA.Off fun b hb=>?_ | refine hA.Plus fun b hb=>?_);cbv) | ((with_reducible first | refine hA.Sto ?_ fun ds hds=>?_ | refine hA.Sapp ?_ fun sl hsl=>?_);rotate_left;cbv) | refine WL ?_ | fail
 all_goals try simp only [hA.sm,n_cast] at *
 all_goals first
  | omega)
theorem sca_orow (l:List (Int×Int)): ∀e∈(l.map orow).flatten,e.sca=true:=fun e h=>by
 obtain ⟨x,h1,h2⟩:=List.mem_flatten.1 h
 obtain ⟨p,_,rfl⟩:=List.mem_map.1 h1
 simp only [List.mem_cons,List.not_mem_nil,or_false] at h2
 rcases h2 with rfl | rfl <;>rfl
theorem len_orow (l:List (Int×Int)): ∀e∈l.map orow,e.length=2:=fun e h=>by
 obtain ⟨p,_,rfl⟩:=List.mem_map.1 h
 rfl
theorem mark300 (x:Nx) (k:Int) (hk:0<=k) (hk2:k+cX x<=140737488355328):MarkC Tryz.prog 95 id (eX x) (eX (mkX k x)) k (k+cX x):=by
 rw [cX_len] at hk2 ⊢
 refine markLeaf (k:=2) (sca_orow _) (sca_orow _) (by simp [mkX,mkL_len]) (len_orow _) (NS.okV_int hk (by omega)) (fun h=>?_) (fun _ _=>?_) (len_orow _)
 ·have h:x.2= []:=by simpa using h
  rw [h]
  have:=ok95z k hk (by omega)
  simpa using this
 ·have:=ok95 x.2 (x.2.map orow) rfl k hk (by simpa using hk2)
  simp only [List.length_map] at this ⊢
  exact this
theorem res_side {n k:Nat} {z z':Int} {xs xs':List E} {vs vs':List Value} {R R':World->Value->List Nat->Prop} :Side (fun t=> [.vec (t 0) n k,.int z]) (fun _=> [.vec true k (cells vs xs),.res R]) (fun _=> .int z') (fun _=> [.vec true k (cells vs' xs'),.res R']):=by
 have e: ∀(vs:List Value) (xs:List E),cells vs xs=(List.zipWith cellE vs xs).map .e:=fun vs xs=>by
  rw [cells,List.map_zipWith]
 rw [e,e]
 exact NS.res_side
theorem w301 (L:List Nx) (vs:List Value) (hv:vs.length=(L.map xrow).flatten.length) (k:Int) (hk:0<=k) (hk2:k+sumC cX L<=140737488355328) (hlen:L.length<=1048576):
  Proc Tryz.prog 96 (fun t=> [.vec (t 0) (L.map xrow).length 1,.int k]) (fun _=> [.vec true 1 (cells vs (L.map xrow).flatten),.res (Trees vs ((L.map xrow).flatten.map trk))]) (fun _=> .int (k+sumC cX L))
   (fun _=> [.vec true 1 (cells vs ((mkL mkX cX k L).map xrow).flatten),.res (Trees vs (((mkL mkX cX k L).map xrow).flatten.map trk))]):=procOf mixed p96 res_side fun A P hA hP=>(by
 obtain ⟨kr,hkr⟩: ∃r,r=k+sumC cX L:=⟨_,rfl⟩
 obtain ⟨xs0,hxs0⟩: ∃xs,xs=L.map xrow:=⟨_,rfl⟩
 obtain ⟨n,hn⟩: ∃n,n=L.length:=⟨_,rfl⟩
 have hnx:xs0.length=n:=by rw [hxs0,hn,List.length_map]
 rw [<-hxs0] at hv ⊢
 rw [hnx]
 obtain ⟨ts,hts⟩: ∃ts,ts=(mkL mkX cX k L).map xrow:=⟨_,rfl⟩
 have htl:ts.length=n:=by rw [hts,List.length_map,mkL_len,hn]
 obtain ⟨ds0,hds0⟩: ∃ds,ds=cells vs xs0.flatten:=⟨_,rfl⟩
 obtain ⟨R0,hR0⟩: ∃R,R=Trees vs (xs0.flatten.map trk):=⟨_,rfl⟩
 obtain ⟨dsF,hdsF⟩: ∃ds,ds=cells vs ts.flatten:=⟨_,rfl⟩
 obtain ⟨RF,hRF⟩: ∃R,R=Trees vs (ts.flatten.map trk):=⟨_,rfl⟩
 have V0:VS 1 vs xs0 ds0 R0:=⟨fun e h=>by rw [hxs0] at h;obtain ⟨p,_,rfl⟩:=List.mem_map.1 h;rfl,hv,hds0,hR0⟩
 rw [<-hkr,<-hds0,<-hR0,<-hts,<-hdsF,<-hRF]
 cbv
 repeat' first | exact W1 | refine WA ?_ ?_ | with_reducible intro hcc | refine WS ?_ | refine W6 ?_ | ((with_reducible first | refine hA.Len fun z hz hb=>?_ | refine hA.Off fun b hb=>?_);cbv) | ((with_reducible first | refine hA.Sapp ?_ fun sl hsl=>?_);rotate_left;cbv) | refine WL ?_ | fail
 all_goals try simp only [hA.sm,n_cast] at *
 all_goals try omega
 refine hA.loopI (fun m s=> ∃(i k1:Int) (xs:List (List E)) (ds:List D) (R:World->Value->List Nat->Prop),0<=i/\m+i=n/\k1=k+sumC cX L-sumC cX (L.drop i.toNat)/\VS 1 vs xs ds R/\xs.length=n/\(∀j:Nat,j<i->xs[j]?=ts[j]?)/\(∀j:Nat,i<=j->xs[j]?=xs0[j]?)/\
    s=⟨[(5,.int i),(0,.vec 0 n 1),(1,.int k1)], [.vec true 1 ds,.res R]⟩) n _
   (Weak.keep (env':= [(5,.int 0),(0,.vec 0 n 1),(1,.int k)]) ⟨rfl,rfl,rfl,trivial⟩)
   ⟨0,k,xs0,ds0,R0,by omega,by omega,(by rw [show (0:Int).toNat=0 from rfl,List.drop_zero];omega),V0,hnx,(fun j hj=>by omega),(fun j _=>rfl),rfl⟩ ?_
 rintro m s K' ⟨i,k1,xs,ds,R,h0,h1,hk1,hV,h2,h3,h4,rfl⟩ hK
 have hdl:ds.length=xs.length * 1:=hV.len
 by_cases hin:(0:Int)<=i/\i<n
 ·have e1:A.lt i (Int.ofNat n)=true:=by rw [hA.lt,Int.ofNat_eq_natCast];exact decide_eq_true (by omega)
  obtain ⟨r,hr⟩: ∃r,L[i.toNat]?=some r:=⟨_,List.getElem?_eq_getElem (by omega)⟩
  have hdr:=sumC_drop (c:=cX) hr
  have hc0:=sumC_nonneg cX_nonneg (L.drop (i.toNat+1))
  have hcd:sumC cX (L.drop i.toNat)<=sumC cX L:=sumC_le cX_nonneg L i.toNat
  have hxi:xs[i.toNat]?=some (xrow r):=by rw [h4 i.toNat (by omega),hxs0,List.getElem?_map,hr];rfl
  obtain ⟨v,hvi,hdi⟩:=hV.ld hxi (c:=0) rfl rfl
  have ld: ∀ {b:Nat} {c:D},b=0+i.toNat * 1->c=ds.getD b default->c= .e (.v v):=fun {b c} q1 q2=>by
   rw [q2,show b=i.toNat * 1+0 by omega,List.getD,hdi]
   rfl
  have hcx:=cX_nonneg r
  have hmk:=mark300 r k1 (by omega) (by omega)
  obtain ⟨k2,hk2'⟩: ∃k,k=k1+cX r:=⟨_,rfl⟩
  rw [<-hk2'] at hmk
  obtain ⟨R2,hV2,hcal0⟩:=hV.mark hxi (c:=0) rfl rfl rfl hvi hmk
  have hcal:=hcal0 1
  have hK2: ∀(env:List (Nat×D)),subL [(5,.int (i+1)),(0,.vec 0 n 1),(1,.int k2)] env->K' ⟨env, [.vec true 1 ds,.res R2]⟩:=fun env q5=>by
   refine hK _ (m-1) _ (by omega) (Weak.keep q5) ⟨i+1,k2,_,ds,R2,by omega,by omega,?_,hV2,?_,fun j hj=>?_,fun j hj=>?_,rfl⟩
   ·rw [show (i+1).toNat=i.toNat+1 by omega];omega
   ·rw [List.length_set];exact h2
   ·by_cases hji:(j:Int)<i
    ·rw [List.getElem?_set_ne (show i.toNat≠j by omega)];exact h3 j hji
    ·have:j=i.toNat:=by omega
     subst this
     rw [List.getElem?_set_self (by omega),hts,List.getElem?_map,mkL_get _ _ _ _ _ _ hr,hk1]
     rfl
   ·rw [List.getElem?_set_ne (show i.toNat≠j by omega)];exact h4 j (by omega)
  clear hK h3 h4 hmk hk1 hdr hk2' hxi hV hV2 hcal0 V0 hts
  cbv
  repeat' first | exact W1 | (simp only [e1];cbv) | refine WA ?_ ?_ | with_reducible intro hcc | refine WS ?_ | ((with_reducible show A.call _ _ _ _ _ 95 _ _ _);refine callK_res hA hP rfl ?_ hcal;cbv) | ((with_reducible refine hA.ld1 _ _ _ ⟨?_,fun c hc=>?_⟩);rotate_left;(have e9:=ld hb hc);subst e9;cbv) | refine W6 ?_ | ((with_reducible first | refine hA.Len fun z hz hb=>?_ | refine hA.Off fun b hb=>?_);cbv) | ((with_reducible first | refine hA.Sapp ?_ fun sl hsl=>?_);rotate_left;cbv) | refine WL ?_ | fail
  all_goals try simp only [hA.sm,n_cast] at *
  all_goals first
   | omega
   | exact hK2 _ ⟨rfl,rfl,rfl,trivial⟩
   | exact finv_refl hA
 ·have e1:A.lt i (Int.ofNat n)=false:=by rw [hA.lt,Int.ofNat_eq_natCast];exact decide_eq_false (by omega)
  have hte:xs=ts:=by
   refine List.ext_getElem? fun j=>?_
   by_cases hj:(j:Int)<i
   ·exact h3 j hj
   ·rw [List.getElem?_eq_none (by omega),List.getElem?_eq_none (by omega)]
  have hRR:R=RF:=by rw [hV.hR,hRF,hte]
  have hdd:ds=dsF:=by rw [hV.hd,hdsF,hte]
  have hkk:k1=kr:=by
   rw [List.drop_eq_nil_of_le (by omega)] at hk1
   simp only [sumC] at hk1
   omega
  clear hK h3 h4 hV V0 hR0 hds0 hdsF hRF
  subst hRR hkk hdd
  cbv
  repeat' first | exact W1 | (simp only [e1];cbv) | refine WA ?_ ?_ | with_reducible intro hcc | refine WS ?_ | refine W6 ?_ | ((with_reducible first | refine hA.Len fun z hz hb=>?_ | refine hA.Off fun b hb=>?_);cbv) | ((with_reducible first | refine hA.Sapp ?_ fun sl hsl=>?_);rotate_left;cbv) | refine WL ?_ | fail
  all_goals try simp only [hA.sm,n_cast] at *
  all_goals first
   | omega
   | exact finv_refl hA)
theorem ok96z (k:Int) (hk:0<=k) (hk2:k<=140737488355328):Plain Tryz.prog 96 [.e (.sl []),.int k] (.int k):=okOf mixed p96 fun A P hA hP=>(by
 obtain ⟨es,hes⟩: ∃es:List (List E),es= []:=⟨_,rfl⟩
 have hl:es.length=0:=by rw [hes];rfl
 obtain ⟨i0,hi0⟩: ∃i:Int,i=0:=⟨_,rfl⟩
 obtain ⟨z1,hz1⟩: ∃z:Int,z=es.length:=⟨_,rfl⟩
 rw [<-hes]
 cbv
 repeat' first | exact W1 | refine WA ?_ ?_ | with_reducible intro hcc | refine WS ?_ | refine W6 ?_ | ((with_reducible first | refine hA.Len fun z hz hb=>?_ | refine hA.Off fun b hb=>?_);cbv) | ((with_reducible first | refine hA.Sapp ?_ fun sl hsl=>?_);rotate_left;cbv) | refine WL ?_ | fail
 all_goals try simp only [hA.sm,n_cast] at *
 all_goals try omega
 refine hA.loopI (fun m s=>s=⟨[(5,.int i0),(0,.e (.sl es)),(1,.int k)], []⟩) 0 _
   (Weak.keep (env':= [(5,.int i0),(0,.e (.sl es)),(1,.int k)]) ⟨by rw [hi0];rfl,rfl,rfl,trivial⟩) rfl ?_
 rintro m s K' rfl hK
 have e1:A.lt i0 z1=false:=by rw [hA.lt];exact decide_eq_false (by omega)
 cbv
 repeat' first | exact W1 | (simp only [e1];cbv) | refine WA ?_ ?_ | with_reducible intro hcc | refine WS ?_ | (refine hA.LenE hz1 fun hb=>?_;cbv) | refine W6 ?_ | ((with_reducible first | refine hA.Len fun z hz hb=>?_ | refine hA.Off fun b hb=>?_);cbv) | ((with_reducible first | refine hA.Sapp ?_ fun sl hsl=>?_);rotate_left;cbv) | refine WL ?_ | fail
 all_goals try simp only [hA.sm,n_cast] at *
 all_goals first
  | omega)
theorem sca_alike {α:Type} {f:α->List E} {k:Nat} (hf: ∀a,(f a).length=k) (hs: ∀a b (j:Nat),((f a)[j]?).map E.sca=((f b)[j]?).map E.sca): ∀(l m:List α),m.length=l.length-> ∀j:Nat,((m.map f).flatten[j]?).map E.sca=((l.map f).flatten[j]?).map E.sca
 | [], [],_,j=>rfl
 | a::l,b::m,h,j=>by
  rw [List.map_cons,List.map_cons,List.flatten_cons,List.flatten_cons]
  by_cases hj:j<k
  ·rw [List.getElem?_append_left (by rw [hf];exact hj),List.getElem?_append_left (by rw [hf];exact hj)]
   exact hs b a j
  ·rw [List.getElem?_append_right (by rw [hf];omega),List.getElem?_append_right (by rw [hf];omega),hf,hf]
   exact sca_alike hf hs l m (by simpa using h) (j-k)
 | [],_::_,h,_=>by simp at h
 | _::_, [],h,_=>by simp at h
theorem mark301 (x:Nxs) (k:Int) (hk:0<=k) (hk2:k+cXs x<=140737488355328) (hlen:x.2.length<=1048576):MarkC Tryz.prog 96 id (eXs x) (eXs (mkXs k x)) k (k+cXs x):=by
 have h0:=cXs_nonneg x
 have hk1: ∀L:List Nx,∀e∈L.map xrow,e.length=1:=fun L e h=>by
  obtain ⟨p,_,rfl⟩:=List.mem_map.1 h
  rfl
 refine markOuter (k:=1) (sca_alike (k:=1) (fun _=>rfl) (fun a b j=>?_) x.2 _ (mkL_len _ _ _ _)) (by simp [mkXs,mkL_len]) (hk1 _) (NS.okV_int hk (by omega)) (fun h=>?_) (fun _ _ vs hvs=>?_) (hk1 _)
 ·match j with
  | 0=>rfl
  | j+1=>rfl
 ·have h:x.2= []:=by simpa using h
  have:=ok96z k hk (by omega)
  have e:cXs x=0:=by rw [cXs,h];rfl
  rw [e]
  simpa using this
 ·exact w301 x.2 vs hvs k hk hk2 hlen
end Go.Proofs.YtfplalbognalkaaGreat.Ab
/- Marks in nodes of flat plans, walked. -/
namespace Go.Proofs.YtfplalbognalkaaGreat.Ab
open Go
def c45:F:=⟨69, [(.tmp 4)],(.seq (.reg [ZA 4 (.mov (.c (.int 0)))]) (.seq (.seq (.reg [ZA 5 (.mov (.c (.int 0)))]) (.block 0 (.loop (.seq (.seq (.reg [ZM 6 5,ZM 7 0,ZA 8 (.lenl 7),ZA 9 (.bin .lss 6 8)]) (.cond 9 .skip (.exit 0))) (.seq (.block 1 (.seq (.reg [ZM 12 0,ZM 13 5,ZM 14 1,ZA 15 (.iadr none 8 12 13),ZE 16 0 15,ZN (.store false 1 16 14)]) (.seq (.reg [ZM 17 1,ZA 18 (.bin .add 17 (.c (.int 1))),ZM 1 18]) (.seq (.reg [ZM 19 0,ZM 20 5,ZM 21 1,ZA 22 (.iadr none 8 19 20),ZE 23 1 22,ZN (.store false 1 23 21)]) (.seq (.reg [ZM 24 1,ZA 25 (.bin .add 24 (.c (.int 1))),ZM 1 25]) (.seq (.reg [ZM 26 0,ZM 27 5,ZM 28 1,ZA 29 (.iadr none 8 26 27),ZE 30 2 29,ZN (.store false 1 30 28)]) (.seq (.reg [ZM 31 1,ZA 32 (.bin .add 31 (.c (.int 1))),ZM 1 32]) (.seq (.reg [ZM 33 0,ZM 34 5,ZM 35 1,ZA 36 (.iadr none 8 33 34),ZE 37 3 36,ZN (.store false 1 37 35)]) (.seq (.reg [ZM 38 1,ZA 39 (.bin .add 38 (.c (.int 1))),ZM 1 39]) (.seq (.reg [ZM 40 0,ZM 41 5,ZA 42 (.iadr none 8 40 41),ZE 43 4 42,ZL 44 43,ZM 45 1,ZC 46 95 [44,45],ZM 1 46]) (.seq (.reg [ZM 47 0,ZM 48 5,ZA 49 (.iadr none 8 47 48),ZE 50 5 49,ZL 51 50,ZM 52 1,ZC 53 96 [51,52],ZM 1 53]) (.seq (.reg [ZM 54 0,ZM 55 5,ZM 56 1,ZA 57 (.iadr none 8 54 55),ZE 58 6 57,ZN (.store false 1 58 56)]) (.seq (.reg [ZM 59 1,ZA 60 (.bin .add 59 (.c (.int 1))),ZM 1 60]) (.seq (.reg [ZM 61 0,ZM 62 5,ZM 63 1,ZA 64 (.iadr none 8 61 62),ZE 65 7 64,ZN (.store false 1 65 63)]) (.reg [ZM 66 1,ZA 67 (.bin .add 66 (.c (.int 1))),ZM 1 67]))))))))))))))) (.reg [ZM 10 5,ZA 11 (.bin .add 10 (.c (.int 1))),ZM 5 11])))))) (.seq (.reg [ZM 68 1,ZM 4 68]) .ret)))⟩
theorem p45:prepF Tryz.prog 45=some c45:=by kernel_rfl
def c17:F:=⟨10, [(.tmp 4)],(.seq (.reg [ZA 2 (.box 0),ZA 4 (.mov (.c (.int 0)))]) (.seq (.reg [ZE 5 0 2,ZL 6 5,ZM 7 1,ZC 8 45 [6,7],ZM 1 8]) (.seq (.reg [ZM 9 1,ZM 4 9]) .ret)))⟩
theorem p17:prepF Tryz.prog 17=some c17:=by kernel_rfl
theorem VS.same {k:Nat} {vs:List Value} {xs ys:List (List E)} {ds ds':List D} {R R' R2} (a:VS k vs xs ds R) (b:VS k vs xs ds' R') (c:VS k vs ys ds' R2):VS k vs ys ds R2:=⟨c.hk,c.hv,a.hd.trans (b.hd.symm.trans c.hd),c.hR⟩
theorem set_get {α:Type} {xs:List α} {i:Nat} {r r':α} (h:xs[i]?=some r):(xs.set i r')[i]?=some r':=List.getElem?_set_self (List.getElem?_eq_some_iff.1 h).1
theorem w263 (L:List Nf) (vs:List Value) (hv:vs.length=(L.map nfr).flatten.length) (k:Int) (hk:0<=k) (hk2:k+sumC cF L<=140737488355328) (hlen:L.length<=1048576) (hlx: ∀n∈L,n.Exs.2.length<=1048576):
  Proc Tryz.prog 45 (fun t=> [.vec (t 0) (L.map nfr).length 8,.int k]) (fun _=> [.vec true 8 (cells vs (L.map nfr).flatten),.res (Trees vs ((L.map nfr).flatten.map trk))]) (fun _=> .int (k+sumC cF L))
   (fun _=> [.vec true 8 (cells vs ((mkL mkF cF k L).map nfr).flatten),.res (Trees vs (((mkL mkF cF k L).map nfr).flatten.map trk))]):=procOf mixed p45 res_side fun A P hA hP=>(by
 obtain ⟨kr,hkr⟩: ∃r,r=k+sumC cF L:=⟨_,rfl⟩
 obtain ⟨xs0,hxs0⟩: ∃xs,xs=L.map nfr:=⟨_,rfl⟩
 obtain ⟨n,hn⟩: ∃n,n=L.length:=⟨_,rfl⟩
 have hnx:xs0.length=n:=by rw [hxs0,hn,List.length_map]
 rw [<-hxs0] at hv ⊢
 rw [hnx]
 obtain ⟨ts,hts⟩: ∃ts,ts=(mkL mkF cF k L).map nfr:=⟨_,rfl⟩
 have htl:ts.length=n:=by rw [hts,List.length_map,mkL_len,hn]
 obtain ⟨ds0,hds0⟩: ∃ds,ds=cells vs xs0.flatten:=⟨_,rfl⟩
 obtain ⟨R0,hR0⟩: ∃R,R=Trees vs (xs0.flatten.map trk):=⟨_,rfl⟩
 obtain ⟨dsF,hdsF⟩: ∃ds,ds=cells vs ts.flatten:=⟨_,rfl⟩
 obtain ⟨RF,hRF⟩: ∃R,R=Trees vs (ts.flatten.map trk):=⟨_,rfl⟩
 have V0:VS 8 vs xs0 ds0 R0:=⟨fun e h=>by rw [hxs0] at h;obtain ⟨p,_,rfl⟩:=List.mem_map.1 h;rfl,hv,hds0,hR0⟩
 rw [<-hkr,<-hds0,<-hR0,<-hts,<-hdsF,<-hRF]
 cbv
 repeat' first | exact W1 | refine WA ?_ ?_ | with_reducible intro hcc | refine WS ?_ | refine W6 ?_ | ((with_reducible first | refine hA.Len fun z hz hb=>?_ | refine hA.Off fun b hb=>?_ | refine hA.Plus fun b hb=>?_);cbv) | ((with_reducible first | refine hA.Sto ?_ fun ds hds=>?_ | refine hA.Sapp ?_ fun sl hsl=>?_);rotate_left;cbv) | refine WL ?_ | fail
 all_goals try simp only [hA.sm,n_cast] at *
 all_goals try omega
 refine hA.loopI (fun m s=> ∃(i k1:Int) (xs:List (List E)) (ds:List D) (R:World->Value->List Nat->Prop),0<=i/\m+i=n/\k1=k+sumC cF L-sumC cF (L.drop i.toNat)/\VS 8 vs xs ds R/\xs.length=n/\(∀j:Nat,j<i->xs[j]?=ts[j]?)/\(∀j:Nat,i<=j->xs[j]?=xs0[j]?)/\
    s=⟨[(5,.int i),(0,.vec 0 n 8),(1,.int k1)], [.vec true 8 ds,.res R]⟩) n _
   (Weak.keep (env':= [(5,.int 0),(0,.vec 0 n 8),(1,.int k)]) ⟨rfl,rfl,rfl,trivial⟩)
   ⟨0,k,xs0,ds0,R0,by omega,by omega,(by rw [show (0:Int).toNat=0 from rfl,List.drop_zero];omega),V0,hnx,(fun j hj=>by omega),(fun j _=>rfl),rfl⟩ ?_
 rintro m s K' ⟨i,k1,xs,ds,R,h0,h1,hk1,hV,h2,h3,h4,rfl⟩ hK
 have hdl:ds.length=xs.length * 8:=hV.len
 by_cases hin:(0:Int)<=i/\i<n
 ·have e1:A.lt i (Int.ofNat n)=true:=by rw [hA.lt,Int.ofNat_eq_natCast];exact decide_eq_true (by omega)
  obtain ⟨d,hr⟩: ∃r,L[i.toNat]?=some r:=⟨_,List.getElem?_eq_getElem (by omega)⟩
  have hdr:=sumC_drop (c:=cF) hr
  have hc0:=sumC_nonneg cF_nonneg (L.drop (i.toNat+1))
  have hcd:sumC cF (L.drop i.toNat)<=sumC cF L:=sumC_le cF_nonneg L i.toNat
  have hxi:xs[i.toNat]?=some (nfr d):=by rw [h4 i.toNat (by omega),hxs0,List.getElem?_map,hr];rfl
  have hcx:=cX_nonneg d.Ex
  have hcxs:=cXs_nonneg d.Exs
  have hcf:cF d=6+cX d.Ex+cXs d.Exs:=rfl
  have hlx':=hlx d (List.mem_of_getElem? hr)
  obtain ⟨ka,hka⟩: ∃k,k=A.add k1 1:=⟨_,rfl⟩
  obtain ⟨kb,hkb⟩: ∃k,k=A.add ka 1:=⟨_,rfl⟩
  obtain ⟨kc,hkc⟩: ∃k,k=A.add kb 1:=⟨_,rfl⟩
  obtain ⟨kd,hkd⟩: ∃k,k=A.add kc 1:=⟨_,rfl⟩
  have hka':ka=k1+1:=by rw [hka,hA.add]
  have hkb':kb=k1+2:=by rw [hkb,hA.add];omega
  have hkc':kc=k1+3:=by rw [hkc,hA.add];omega
  have hkd':kd=k1+4:=by rw [hkd,hA.add];omega
  obtain ⟨ke,hke⟩: ∃k,k=kd+cX d.Ex:=⟨_,rfl⟩
  obtain ⟨kf,hkf⟩: ∃k,k=ke+cXs d.Exs:=⟨_,rfl⟩
  obtain ⟨kg,hkg⟩: ∃k,k=A.add kf 1:=⟨_,rfl⟩
  have hkg':kg=kf+1:=by rw [hkg,hA.add]
  have m4:=mark300 d.Ex kd (by omega) (by omega)
  have m5:=mark301 d.Exs ke (by omega) (by omega) hlx'
  rw [<-hke] at m4
  rw [<-hkf] at m5
  obtain ⟨v4,hv4,hd4⟩:=hV.ld hxi (c:=4) rfl rfl
  obtain ⟨v5,hv5,hd5⟩:=hV.ld hxi (c:=5) rfl rfl
  have V1:=hV.st (c:=0) (x':= .int .i64 k1) hxi rfl rfl rfl
  have V2:=V1.st (c:=1) (x':= .int .i64 ka) (set_get hxi) rfl rfl rfl
  have V3:=V2.st (c:=2) (x':= .int .i64 kb) (set_get (set_get hxi)) rfl rfl rfl
  have V4:=V3.st (c:=3) (x':= .int .i64 kc) (set_get (set_get (set_get hxi))) rfl rfl rfl
  obtain ⟨R2,V5,hcal4⟩:=V4.mark (c:=4) (e:=eX d.Ex) (e':=eX (mkX kd d.Ex)) (set_get (set_get (set_get (set_get hxi)))) rfl rfl rfl hv4 m4
  obtain ⟨R3,V6,hcal5⟩:=V5.mark (c:=5) (e:=eXs d.Exs) (e':=eXs (mkXs ke d.Exs)) (set_get (set_get (set_get (set_get (set_get hxi))))) rfl rfl rfl hv5 m5
  have hcal4:=hcal4 1
  have hcal5:=hcal5 1
  have ch: ∀ {d1 d2 d3 d4:List D} {b1 b2 b3 b4:Nat},d4=d3.take b4++ [.e (E.int kc)]++d3.drop (b4+1)->d3=d2.take b3++ [.e (E.int kb)]++d2.drop (b3+1)->d2=d1.take b2++ [.e (E.int ka)]++d1.drop (b2+1)->d1=ds.take b1++ [.e (E.int k1)]++ds.drop (b1+1)->
    b1=i.toNat * 8+0->b2=i.toNat * 8+1->b3=i.toNat * 8+2->b4=i.toNat * 8+3->VS 8 vs (((xs.set i.toNat _).set i.toNat _).set i.toNat _ |>.set i.toNat _) d4 R:=fun {d1 d2 d3 d4 b1 b2 b3 b4} q4 q3 q2 q1 p1 p2 p3 p4=>
   (((hV.st (c:=0) (x':= .int .i64 k1) hxi rfl p1 q1).st (c:=1) (x':= .int .i64 ka) (set_get hxi) rfl p2 q2).st (c:=2) (x':= .int .i64 kb) (set_get (set_get hxi)) rfl p3 q3).st (c:=3) (x':= .int .i64 kc) (set_get (set_get (set_get hxi))) rfl p4 q4
  have ld4: ∀ {d1 d2 d3 d4:List D} {b1 b2 b3 b4 b:Nat} {c:D},d4=d3.take b4++ [.e (E.int kc)]++d3.drop (b4+1)->d3=d2.take b3++ [.e (E.int kb)]++d2.drop (b3+1)->d2=d1.take b2++ [.e (E.int ka)]++d1.drop (b2+1)->d1=ds.take b1++ [.e (E.int k1)]++ds.drop (b1+1)->
    b1=i.toNat * 8+0->b2=i.toNat * 8+1->b3=i.toNat * 8+2->b4=i.toNat * 8+3->b=i.toNat * 8+4->c=d4.getD b default->c= .e (.v v4):=fun {d1 d2 d3 d4 b1 b2 b3 b4 b c} q4 q3 q2 q1 p1 p2 p3 p4 p5 q5=>by
   obtain ⟨v,g1,g2⟩:=(ch q4 q3 q2 q1 p1 p2 p3 p4).ld (c:=4) (e:=eX d.Ex) (set_get (set_get (set_get (set_get hxi)))) rfl rfl
   rw [hv4] at g1
   cases g1
   rw [q5,p5,List.getD,g2]
   rfl
  have ld5: ∀ {d1 d2 d3 d4:List D} {b1 b2 b3 b4 b:Nat} {c:D},d4=d3.take b4++ [.e (E.int kc)]++d3.drop (b4+1)->d3=d2.take b3++ [.e (E.int kb)]++d2.drop (b3+1)->d2=d1.take b2++ [.e (E.int ka)]++d1.drop (b2+1)->d1=ds.take b1++ [.e (E.int k1)]++ds.drop (b1+1)->
    b1=i.toNat * 8+0->b2=i.toNat * 8+1->b3=i.toNat * 8+2->b4=i.toNat * 8+3->b=i.toNat * 8+5->c=d4.getD b default->c= .e (.v v5):=fun {d1 d2 d3 d4 b1 b2 b3 b4 b c} q4 q3 q2 q1 p1 p2 p3 p4 p5 q5=>by
   obtain ⟨v,g1,g2⟩:=(ch q4 q3 q2 q1 p1 p2 p3 p4).ld (c:=5) (e:=eXs d.Exs) (set_get (set_get (set_get (set_get hxi)))) rfl rfl
   rw [hv5] at g1
   cases g1
   rw [q5,p5,List.getD,g2]
   rfl
  have hK2: ∀ {d1 d2 d3 d4 d5 d6:List D} {b1 b2 b3 b4 b5 b6:Nat} (env:List (Nat×D)),d6=d5.take b6++ [.e (E.int kg)]++d5.drop (b6+1)->d5=d4.take b5++ [.e (E.int kf)]++d4.drop (b5+1)->d4=d3.take b4++ [.e (E.int kc)]++d3.drop (b4+1)->d3=d2.take b3++ [.e (E.int kb)]++d2.drop (b3+1)->d2=d1.take b2++ [.e (E.int ka)]++d1.drop (b2+1)->d1=ds.take b1++ [.e (E.int k1)]++ds.drop (b1+1)->
    b1=i.toNat * 8+0->b2=i.toNat * 8+1->b3=i.toNat * 8+2->b4=i.toNat * 8+3->b5=i.toNat * 8+6->b6=i.toNat * 8+7->
    subL [(5,.int (i+1)),(0,.vec 0 n 8),(1,.int (kg+1))] env->K' ⟨env, [.vec true 8 d6,.res R3]⟩:=fun {d1 d2 d3 d4 d5 d6 b1 b2 b3 b4 b5 b6} env q6 q5 q4 q3 q2 q1 p1 p2 p3 p4 p5 p6 q=>by
   have W4:=ch q4 q3 q2 q1 p1 p2 p3 p4
   have W6:=VS.same (W4.same V4 V5) V5 V6
   have W7:=W6.st (c:=6) (x':= .int .i64 kf) (set_get (set_get (set_get (set_get (set_get (set_get hxi)))))) rfl p5 q5
   have W8:=W7.st (c:=7) (x':= .int .i64 kg) (set_get (set_get (set_get (set_get (set_get (set_get (set_get hxi))))))) rfl p6 q6
   simp only [List.set_set] at W8
   refine hK _ (m-1) _ (by omega) (Weak.keep q) ⟨i+1,kg+1,_,d6,R3,by omega,by omega,?_,W8,?_,fun j hj=>?_,fun j hj=>?_,rfl⟩
   ·rw [show (i+1).toNat=i.toNat+1 by omega];omega
   ·rw [List.length_set];exact h2
   ·by_cases hji:(j:Int)<i
    ·rw [List.getElem?_set_ne (show i.toNat≠j by omega)];exact h3 j hji
    ·have:j=i.toNat:=by omega
     subst this
     rw [List.getElem?_set_self (by omega),hts,List.getElem?_map,mkL_get _ _ _ _ _ _ hr,<-hk1]
     show some [E.int k1,E.int ka,E.int kb,E.int kc,eX (mkX kd d.Ex),eXs (mkXs ke d.Exs),E.int kf,E.int kg]=some (nfr (mkF k1 d))
     simp only [mkF,nfr]
     rw [hka',hkb',hkc',hkg',hkf,hke,hkd']
   ·rw [List.getElem?_set_ne (show i.toNat≠j by omega)];exact h4 j (by omega)
  have hbd:0<=k1/\kg+1<=140737488355328:=by omega
  clear hK h3 h4 m4 m5 hk1 hdr hxi hV V1 V2 V3 V4 V5 V6 V0 hts ch hd4 hd5 hv4 hv5
  cbv
  repeat' first | exact W1 | (simp only [e1,<-hka,<-hkb,<-hkc,<-hkd,<-hkg];cbv) | refine WA ?_ ?_ | with_reducible intro hcc | refine WS ?_ | ((with_reducible show A.call _ _ _ _ _ 95 _ _ _);refine callK_res hA hP rfl ?_ hcal4;cbv) | ((with_reducible show A.call _ _ _ _ _ 96 _ _ _);refine callK_res hA hP rfl ?_ hcal5;cbv) | ((with_reducible refine hA.ld1 _ _ _ ⟨?_,fun c hc=>?_⟩);rotate_left;(have e9:=ld4 (by assumption) (by assumption) (by assumption) (by assumption) (by omega) (by omega) (by omega) (by omega) (by omega) hc);subst e9;cbv) | ((with_reducible refine hA.ld1 _ _ _ ⟨?_,fun c hc=>?_⟩);rotate_left;(have e9:=ld5 (by assumption) (by assumption) (by assumption) (by assumption) (by omega) (by omega) (by omega) (by omega) (by omega) hc);subst e9;cbv) | refine W6 ?_ | ((with_reducible first | refine hA.Len fun z hz hb=>?_ | refine hA.Off fun b hb=>?_ | refine hA.Plus fun b hb=>?_);cbv) | ((with_reducible first | refine hA.Sto ?_ fun ds hds=>?_ | refine hA.Sapp ?_ fun sl hsl=>?_);rotate_left;cbv) | refine WL ?_ | fail
  all_goals try simp only [hA.sm,n_cast] at *
  all_goals first
   | omega
   | exact hK2 _ (by assumption) (by assumption) (by assumption) (by assumption) (by assumption) (by assumption) (by omega) (by omega) (by omega) (by omega) (by omega) (by omega) ⟨rfl,rfl,rfl,trivial⟩
   | exact finv_refl hA
   | (subst_vars;simp only [List.length_append,List.length_take,List.length_drop,List.length_cons,List.length_nil];omega)
 ·have e1:A.lt i (Int.ofNat n)=false:=by rw [hA.lt,Int.ofNat_eq_natCast];exact decide_eq_false (by omega)
  have hte:xs=ts:=by
   refine List.ext_getElem? fun j=>?_
   by_cases hj:(j:Int)<i
   ·exact h3 j hj
   ·rw [List.getElem?_eq_none (by omega),List.getElem?_eq_none (by omega)]
  have hRR:R=RF:=by rw [hV.hR,hRF,hte]
  have hdd:ds=dsF:=by rw [hV.hd,hdsF,hte]
  have hkk:k1=kr:=by
   rw [List.drop_eq_nil_of_le (by omega)] at hk1
   simp only [sumC] at hk1
   omega
  clear hK h3 h4 hV V0 hR0 hds0 hdsF hRF
  subst hRR hkk hdd
  cbv
  repeat' first | exact W1 | (simp only [e1];cbv) | refine WA ?_ ?_ | with_reducible intro hcc | refine WS ?_ | refine W6 ?_ | ((with_reducible first | refine hA.Len fun z hz hb=>?_ | refine hA.Off fun b hb=>?_ | refine hA.Plus fun b hb=>?_);cbv) | ((with_reducible first | refine hA.Sto ?_ fun ds hds=>?_ | refine hA.Sapp ?_ fun sl hsl=>?_);rotate_left;cbv) | refine WL ?_ | fail
  all_goals try simp only [hA.sm,n_cast] at *
  all_goals first
   | omega
   | exact finv_refl hA)
theorem ok45z (k:Int) (hk:0<=k) (hk2:k<=140737488355328):Plain Tryz.prog 45 [.e (.sl []),.int k] (.int k):=okOf mixed p45 fun A P hA hP=>(by
 obtain ⟨es,hes⟩: ∃es:List (List E),es= []:=⟨_,rfl⟩
 have hl:es.length=0:=by rw [hes];rfl
 obtain ⟨i0,hi0⟩: ∃i:Int,i=0:=⟨_,rfl⟩
 obtain ⟨z1,hz1⟩: ∃z:Int,z=es.length:=⟨_,rfl⟩
 rw [<-hes]
 cbv
 repeat' first | exact W1 | refine WA ?_ ?_ | with_reducible intro hcc | refine WS ?_ | refine W6 ?_ | ((with_reducible first | refine hA.Len fun z hz hb=>?_ | refine hA.Off fun b hb=>?_ | refine hA.Plus fun b hb=>?_);cbv) | ((with_reducible first | refine hA.Sto ?_ fun ds hds=>?_ | refine hA.Sapp ?_ fun sl hsl=>?_);rotate_left;cbv) | refine WL ?_ | fail
 all_goals try simp only [hA.sm,n_cast] at *
 all_goals try omega
 refine hA.loopI (fun m s=>s=⟨[(5,.int i0),(0,.e (.sl es)),(1,.int k)], []⟩) 0 _
   (Weak.keep (env':= [(5,.int i0),(0,.e (.sl es)),(1,.int k)]) ⟨by rw [hi0];rfl,rfl,rfl,trivial⟩) rfl ?_
 rintro m s K' rfl hK
 have e1:A.lt i0 z1=false:=by rw [hA.lt];exact decide_eq_false (by omega)
 cbv
 repeat' first | exact W1 | (simp only [e1];cbv) | refine WA ?_ ?_ | with_reducible intro hcc | refine WS ?_ | (refine hA.LenE hz1 fun hb=>?_;cbv) | refine W6 ?_ | ((with_reducible first | refine hA.Len fun z hz hb=>?_ | refine hA.Off fun b hb=>?_ | refine hA.Plus fun b hb=>?_);cbv) | ((with_reducible first | refine hA.Sto ?_ fun ds hds=>?_ | refine hA.Sapp ?_ fun sl hsl=>?_);rotate_left;cbv) | refine WL ?_ | fail
 all_goals try simp only [hA.sm,n_cast] at *
 all_goals first
  | omega)
theorem mark263 (i:Nat) (L:List Nf) (k:Int) (hk:0<=k) (hk2:k+sumC cF L<=140737488355328) (hlen:L.length<=1048576) (hlx: ∀n∈L,n.Exs.2.length<=1048576):MarkC Tryz.prog 45 id (eFs i L) (eFs i (mkL mkF cF k L)) k (k+sumC cF L):=by
 have h0:=sumC_nonneg cF_nonneg L
 have hk1: ∀L:List Nf,∀e∈L.map nfr,e.length=8:=fun L e h=>by
  obtain ⟨p,_,rfl⟩:=List.mem_map.1 h
  rfl
 refine markOuter (k:=8) (sca_alike (k:=8) (fun _=>rfl) (fun a b j=>?_) L _ (mkL_len _ _ _ _)) (by simp [mkL_len]) (hk1 _) (NS.okV_int hk (by omega)) (fun h=>?_) (fun _ _ vs hvs=>?_) (hk1 _)
 ·match j with
  | 0 | 1 | 2 | 3 | 4 | 5 | 6 | 7=>rfl
  | j+8=>rfl
 ·have h:L= []:=by simpa using h
  have:=ok45z k hk (by omega)
  subst h
  simpa [sumC] using this
 ·exact w263 L vs hvs k hk hk2 hlen hlx
theorem rv_one {w:World} {G:Gh} {h:Hp} {v:Value} {i:Nat} (r:Rv w G h v (.rv i)):v.oneCell'=true:=by
 cases r with | rv _ h=>exact h
theorem str_side {z z':Int} {x:Value} {R R':World->Value->List Nat->Prop} :Side (fun t=> [.agg [.rv (t 0),.e (.v x)],.int z]) (fun _=> [.res R]) (fun _=> .int z') (fun _=> [.res R']):=
 ⟨fun t=>rfl,rfl,fun t=>rfl,by intro o ho;rw [List.mem_singleton] at ho;subst ho;rfl,fun t=>rfl,fun t=>rfl,Nat.le_refl _⟩
theorem res_fin {A:Ar} (hA:A.Ok) {R R':World->Value->List Nat->Prop} {z:Int} {l':List O} (h:hpF l' 0= .res R'):A.finv [.res R] l' (.int z) [.res R'] (.int z):=
 hA.finv _ _ _ _ _ (FinV.ren [0] (fun _=> [.res R']) (fun _=> .int z) rfl (.inl rfl) ⟨h,trivial⟩ (fun t=>rfl) rfl (fun t=>rfl) (by intro o ho;rw [List.mem_singleton] at ho;subst ho;rfl))
theorem mark224 (i:Nat) (L:List Nf) (root k:Int) (hroot:okV (.int .i64 root)=true) (hk:0<=k) (hk2:k+sumC cF L<=140737488355328) (hlen:L.length<=1048576) (hlx: ∀n∈L,n.Exs.2.length<=1048576):
  MarkC Tryz.prog 17 (fun v=> .agg #[v,.int .i64 root]) (eFs i L) (eFs i (mkL mkF cF k L)) k (k+sumC cF L):=by
 have h0:=sumC_nonneg cF_nonneg L
 refine markStruct (d:=fun t=> .agg [.rv (t 0),.int root]) (NS.okV_int hk (by omega)) (fun w G h r=>?_) (procOf mixed p17 str_side fun A P hA hP=>(by
  have hm:=mark263 i L k hk hk2 hlen hlx
  obtain ⟨R0,hR0⟩: ∃R,R=Tree (eFs i L):=⟨_,rfl⟩
  obtain ⟨R1,hR1⟩: ∃R,R=Tree (eFs i (mkL mkF cF k L)):=⟨_,rfl⟩
  obtain ⟨k2,hk2'⟩: ∃k2,k2=k+sumC cF L:=⟨_,rfl⟩
  rw [<-hk2'] at hm ⊢
  rw [<-hR0,<-hR1]
  have hcal: ∀f,CallE Tryz.prog 45 [.rv 0,.int k] [(0,.res R0)] f {d:=some (.int k2),wr:= [(0,.res R1)],tc:= [0]} :=fun f=>by
   rw [hR0,hR1]
   exact hm.callE fun _ _ _ _ r=>NS.rv_id r
  clear hm hR0 hR1 hk2'
  cbv
  repeat' first | exact W1 | refine WA ?_ ?_ | with_reducible intro hcc | refine WS ?_ | ((with_reducible show A.call _ _ _ _ _ 45 _ _ _);refine callK_res hA hP rfl ?_ hcal;cbv) | ((with_reducible refine res_fin hA ?_)) | refine W6 ?_ | refine WL ?_ | fail
  all_goals try simp only [hA.sm,n_cast] at *
  all_goals first
   | omega
   | rfl))
 ·refine .agg rfl (fun j c hc=>?_) fun j c d hc hd=>?_
  ·match j with
   | 0=>simp at hc;subst hc;exact rv_one r
   | 1=>simp at hc;subst hc;rfl
   | j+2=>simp at hc
  ·match j with
   | 0=>simp at hc hd;subst hc;subst hd;exact r
   | 1=>simp at hc hd;subst hc;subst hd;exact .e (.v hroot)
   | j+2=>simp at hc
end Go.Proofs.YtfplalbognalkaaGreat.Ab
/- Marks in flat plans, asked for. -/
namespace Go.Proofs.YtfplalbognalkaaGreat.Ab
open Go
def c98:F:=⟨31, [(.tmp 4)],(.seq (.reg [ZA 4 (.mov (.c (.int 0)))]) (.seq (.seq (.reg [ZA 5 (.mov (.c (.int 0)))]) (.block 0 (.loop (.seq (.seq (.reg [ZM 6 5,ZM 7 0,ZA 8 (.lenl 7),ZA 9 (.bin .lss 6 8)]) (.cond 9 .skip (.exit 0))) (.seq (.block 1 (.seq (.seq (.reg [ZM 12 0,ZM 13 5,ZA 14 (.iadr none 2 12 13),ZE 15 0 14,ZL 16 15,ZM 17 1,ZA 18 (.bin .neq 16 17)]) (.cond 18 (.seq (.reg [ZA 4 (.mov (.c (.int (-1))))]) .ret) .skip)) (.seq (.reg [ZM 19 1,ZA 20 (.bin .add 19 (.c (.int 1))),ZM 1 20]) (.seq (.seq (.reg [ZM 21 0,ZM 22 5,ZA 23 (.iadr none 2 21 22),ZE 24 1 23,ZL 25 24,ZM 26 1,ZA 27 (.bin .neq 25 26)]) (.cond 27 (.seq (.reg [ZA 4 (.mov (.c (.int (-1))))]) .ret) .skip)) (.reg [ZM 28 1,ZA 29 (.bin .add 28 (.c (.int 1))),ZM 1 29]))))) (.reg [ZM 10 5,ZA 11 (.bin .add 10 (.c (.int 1))),ZM 5 11])))))) (.seq (.reg [ZM 30 1,ZM 4 30]) .ret)))⟩
theorem p98:prepF Tryz.prog 98=some c98:=by kernel_rfl
def c99:F:=⟨21, [(.tmp 4)],(.seq (.reg [ZA 4 (.mov (.c (.int 0)))]) (.seq (.seq (.reg [ZA 5 (.mov (.c (.int 0)))]) (.block 0 (.loop (.seq (.seq (.reg [ZM 6 5,ZM 7 0,ZA 8 (.lenl 7),ZA 9 (.bin .lss 6 8)]) (.cond 9 .skip (.exit 0))) (.seq (.block 1 (.seq (.reg [ZM 12 0,ZM 13 5,ZA 14 (.iadr none 1 12 13),ZL 15 14,ZM 16 1,ZC 17 98 [15,16],ZM 1 17]) (.seq (.reg [ZM 18 1,ZA 19 (.bin .lss 18 (.c (.int 0)))]) (.cond 19 (.seq (.reg [ZA 4 (.mov (.c (.int (-1))))]) .ret) .skip)))) (.reg [ZM 10 5,ZA 11 (.bin .add 10 (.c (.int 1))),ZM 5 11])))))) (.seq (.reg [ZM 20 1,ZM 4 20]) .ret)))⟩
theorem p99:prepF Tryz.prog 99=some c99:=by kernel_rfl
def c46:F:=⟨85, [(.tmp 4)],(.seq (.reg [ZA 4 (.mov (.c (.int 0)))]) (.seq (.seq (.reg [ZA 5 (.mov (.c (.int 0)))]) (.block 0 (.loop (.seq (.seq (.reg [ZM 6 5,ZM 7 0,ZA 8 (.lenl 7),ZA 9 (.bin .lss 6 8)]) (.cond 9 .skip (.exit 0))) (.seq (.block 1 (.seq (.seq (.reg [ZM 12 0,ZM 13 5,ZA 14 (.iadr none 8 12 13),ZE 15 0 14,ZL 16 15,ZM 17 1,ZA 18 (.bin .neq 16 17)]) (.cond 18 (.seq (.reg [ZA 4 (.mov (.c (.int (-1))))]) .ret) .skip)) (.seq (.reg [ZM 19 1,ZA 20 (.bin .add 19 (.c (.int 1))),ZM 1 20]) (.seq (.seq (.reg [ZM 21 0,ZM 22 5,ZA 23 (.iadr none 8 21 22),ZE 24 1 23,ZL 25 24,ZM 26 1,ZA 27 (.bin .neq 25 26)]) (.cond 27 (.seq (.reg [ZA 4 (.mov (.c (.int (-1))))]) .ret) .skip)) (.seq (.reg [ZM 28 1,ZA 29 (.bin .add 28 (.c (.int 1))),ZM 1 29]) (.seq (.seq (.reg [ZM 30 0,ZM 31 5,ZA 32 (.iadr none 8 30 31),ZE 33 2 32,ZL 34 33,ZM 35 1,ZA 36 (.bin .neq 34 35)]) (.cond 36 (.seq (.reg [ZA 4 (.mov (.c (.int (-1))))]) .ret) .skip)) (.seq (.reg [ZM 37 1,ZA 38 (.bin .add 37 (.c (.int 1))),ZM 1 38]) (.seq (.seq (.reg [ZM 39 0,ZM 40 5,ZA 41 (.iadr none 8 39 40),ZE 42 3 41,ZL 43 42,ZM 44 1,ZA 45 (.bin .neq 43 44)]) (.cond 45 (.seq (.reg [ZA 4 (.mov (.c (.int (-1))))]) .ret) .skip)) (.seq (.reg [ZM 46 1,ZA 47 (.bin .add 46 (.c (.int 1))),ZM 1 47]) (.seq (.reg [ZM 48 0,ZM 49 5,ZA 50 (.iadr none 8 48 49),ZE 51 4 50,ZL 52 51,ZM 53 1,ZC 54 98 [52,53],ZM 1 54]) (.seq (.seq (.reg [ZM 55 1,ZA 56 (.bin .lss 55 (.c (.int 0)))]) (.cond 56 (.seq (.reg [ZA 4 (.mov (.c (.int (-1))))]) .ret) .skip)) (.seq (.reg [ZM 57 0,ZM 58 5,ZA 59 (.iadr none 8 57 58),ZE 60 5 59,ZL 61 60,ZM 62 1,ZC 63 99 [61,62],ZM 1 63]) (.seq (.seq (.reg [ZM 64 1,ZA 65 (.bin .lss 64 (.c (.int 0)))]) (.cond 65 (.seq (.reg [ZA 4 (.mov (.c (.int (-1))))]) .ret) .skip)) (.seq (.seq (.reg [ZM 66 0,ZM 67 5,ZA 68 (.iadr none 8 66 67),ZE 69 6 68,ZL 70 69,ZM 71 1,ZA 72 (.bin .neq 70 71)]) (.cond 72 (.seq (.reg [ZA 4 (.mov (.c (.int (-1))))]) .ret) .skip)) (.seq (.reg [ZM 73 1,ZA 74 (.bin .add 73 (.c (.int 1))),ZM 1 74]) (.seq (.seq (.reg [ZM 75 0,ZM 76 5,ZA 77 (.iadr none 8 75 76),ZE 78 7 77,ZL 79 78,ZM 80 1,ZA 81 (.bin .neq 79 80)]) (.cond 81 (.seq (.reg [ZA 4 (.mov (.c (.int (-1))))]) .ret) .skip)) (.reg [ZM 82 1,ZA 83 (.bin .add 82 (.c (.int 1))),ZM 1 83]))))))))))))))))) (.reg [ZM 10 5,ZA 11 (.bin .add 10 (.c (.int 1))),ZM 5 11])))))) (.seq (.reg [ZM 84 1,ZM 4 84]) .ret)))⟩
theorem p46:prepF Tryz.prog 46=some c46:=by kernel_rfl
def c18:F:=⟨12, [(.tmp 4)],(.seq (.reg [ZA 2 (.box 0),ZA 4 (.mov (.c (.int 0)))]) (.seq (.reg [ZE 5 0 2,ZL 6 5,ZM 7 1,ZC 8 46 [6,7],ZM 1 8]) (.seq (.seq (.reg [ZM 9 1,ZA 10 (.bin .lss 9 (.c (.int 0)))]) (.cond 10 (.seq (.reg [ZA 4 (.mov (.c (.int (-1))))]) .ret) .skip)) (.seq (.reg [ZM 11 1,ZM 4 11]) .ret))))⟩
theorem p18:prepF Tryz.prog 18=some c18:=by kernel_rfl
theorem ok98 (x:Nx) (es:List (List E)) (k:Int) (he:es=(mkX k x).2.map orow) (hk:0<=k) (hk2:k+cX x<=140737488355328):Plain Tryz.prog 98 [.e (.sl es),.int k] (.int (k+cX x)):=okOf mixed p98 fun A P hA hP=>(by
 have hl1:es.length=x.2.length:=by rw [he,List.length_map,mkX,mkL_len]
 have hcx:=cX_len x
 have htg: ∀i:Nat,i<es.length->es.getD i []= [E.int (k+2 * i),E.int (k+2 * i+1)]:=fun i h=>by
  obtain ⟨a,ha⟩: ∃a,x.2[i]?=some a:=⟨_,List.getElem?_eq_getElem (by omega)⟩
  rw [List.getD,he,List.getElem?_map,mkX,mkL_get mkOp cOp k x.2 i a ha,cOp_sum,cOp_sum,List.length_drop]
  have:k+2 * (x.2.length:Int)-2 * ((x.2.length-i:Nat):Int)=k+2 * i:=by omega
  rw [this]
  rfl
 obtain ⟨kr,hkr⟩: ∃r,r=k+cX x:=⟨_,rfl⟩
 obtain ⟨ze,hze⟩: ∃z:Int,z=es.length:=⟨_,rfl⟩
 rw [<-hkr]
 cbv
 repeat' first | exact W1 | refine WA ?_ ?_ | with_reducible intro hcc | refine WS ?_ | refine W6 ?_ | ((with_reducible first | refine hA.Len fun z hz hb=>?_ | refine hA.Off fun b hb=>?_ | refine hA.Plus fun b hb=>?_);cbv) | ((with_reducible first | refine hA.Sapp ?_ fun sl hsl=>?_);rotate_left;cbv) | refine WL ?_ | fail
 all_goals try simp only [hA.sm,n_cast] at *
 all_goals try omega
 refine hA.loopI (fun m s=> ∃(i k1:Int),0<=i/\m+i=es.length/\k1=k+2 * i/\s=⟨[(5,.int i),(0,.e (.sl es)),(1,.int k1)], []⟩) es.length _
   (Weak.keep (env':= [(5,.int 0),(0,.e (.sl es)),(1,.int k)]) ⟨rfl,rfl,rfl,trivial⟩) ⟨0,k,by omega,by omega,by omega,rfl⟩ ?_
 rintro m s K' ⟨i,k1,h0,h1,hk1,rfl⟩ hK
 by_cases hin:(0:Int)<=i/\i<es.length
 ·have e1:A.lt i ze=true:=by rw [hA.lt];exact decide_eq_true (by omega)
  obtain ⟨k3,hk3⟩: ∃k,k=A.add k1 1:=⟨_,rfl⟩
  have hk3':k3=k1+1:=by rw [hk3,hA.add]
  have hrow0:es.getD i.toNat []= [E.int k1,E.int k3]:=by
   rw [htg _ (by omega),hk3',hk1,show k+2 * i=k+2 * ((i.toNat:Nat):Int) by omega]
  have e2: ∀k,A.eq k k=true:=fun k=>by rw [hA.eq];exact decide_eq_true rfl
  have hK2: ∀(env:List (Nat×D)),subL [(5,.int (i+1)),(0,.e (.sl es)),(1,.int (k3+1))] env->K' ⟨env, []⟩:=fun env q=>
   hK _ (m-1) _ (by omega) (Weak.keep q) ⟨i+1,k3+1,by omega,by omega,by omega,rfl⟩
  clear hK htg he
  cbv
  repeat' first | exact W1 | (simp only [e1,<-hk3,e2];cbv) | refine WA ?_ ?_ | with_reducible intro hcc | refine WS ?_ | (refine hA.LenE hze fun hb=>?_;cbv) | (refine hA.RowE hin hrow0 ?_;cbv) | refine W6 ?_ | ((with_reducible first | refine hA.Len fun z hz hb=>?_ | refine hA.Off fun b hb=>?_ | refine hA.Plus fun b hb=>?_);cbv) | ((with_reducible first | refine hA.Sapp ?_ fun sl hsl=>?_);rotate_left;cbv) | refine WL ?_ | fail
  all_goals try simp only [hA.sm,n_cast] at *
  all_goals first
   | omega
   | exact hK2 _ ⟨rfl,rfl,rfl,trivial⟩
   | (have:=hb trivial trivial trivial;omega)
 ·have e1:A.lt i ze=false:=by rw [hA.lt];exact decide_eq_false (by omega)
  have hkk:k1=kr:=by omega
  subst hkk
  clear hK htg he
  cbv
  repeat' first | exact W1 | (simp only [e1];cbv) | refine WA ?_ ?_ | with_reducible intro hcc | refine WS ?_ | (refine hA.LenE hze fun hb=>?_;cbv) | refine W6 ?_ | ((with_reducible first | refine hA.Len fun z hz hb=>?_ | refine hA.Off fun b hb=>?_ | refine hA.Plus fun b hb=>?_);cbv) | ((with_reducible first | refine hA.Sapp ?_ fun sl hsl=>?_);rotate_left;cbv) | refine WL ?_ | fail
  all_goals try simp only [hA.sm,n_cast] at *
  all_goals first
   | omega)
theorem ok99 (x:Nxs) (es:List (List E)) (k:Int) (he:es=((mkXs k x).2.map Prod.snd).map orr) (hk:0<=k) (hk2:k+cXs x<=140737488355328):Plain Tryz.prog 99 [.e (.sl es),.int k] (.int (k+cXs x)):=okOf mixed p99 fun A P hA hP=>(by
 have hl1:es.length=x.2.length:=by rw [he,List.length_map,List.length_map,mkXs,mkL_len]
 obtain ⟨kr,hkr⟩: ∃r,r=k+cXs x:=⟨_,rfl⟩
 have hcxs:cXs x=sumC cX x.2:=rfl
 obtain ⟨ze,hze⟩: ∃z:Int,z=es.length:=⟨_,rfl⟩
 rw [<-hkr]
 cbv
 repeat' first | exact W1 | refine WA ?_ ?_ | with_reducible intro hcc | refine WS ?_ | refine W6 ?_ | ((with_reducible first | refine hA.Len fun z hz hb=>?_ | refine hA.Off fun b hb=>?_);cbv) | ((with_reducible first | refine hA.Sapp ?_ fun sl hsl=>?_);rotate_left;cbv) | refine WL ?_ | fail
 all_goals try simp only [hA.sm,n_cast] at *
 all_goals try omega
 refine hA.loopI (fun m s=> ∃(i k1:Int),0<=i/\m+i=es.length/\k1=k+sumC cX x.2-sumC cX (x.2.drop i.toNat)/\s=⟨[(5,.int i),(0,.e (.sl es)),(1,.int k1)], []⟩) es.length _
   (Weak.keep (env':= [(5,.int 0),(0,.e (.sl es)),(1,.int k)]) ⟨rfl,rfl,rfl,trivial⟩) ⟨0,k,by omega,by omega,(by rw [show (0:Int).toNat=0 from rfl,List.drop_zero];omega),rfl⟩ ?_
 rintro m s K' ⟨i,k1,h0,h1,hk1,rfl⟩ hK
 by_cases hin:(0:Int)<=i/\i<es.length
 ·have e1:A.lt i ze=true:=by rw [hA.lt];exact decide_eq_true (by omega)
  obtain ⟨r,hr⟩: ∃r,x.2[i.toNat]?=some r:=⟨_,List.getElem?_eq_getElem (by omega)⟩
  have hdr:=sumC_drop (c:=cX) hr
  have hc0:=sumC_nonneg cX_nonneg (x.2.drop (i.toNat+1))
  have hcd:sumC cX (x.2.drop i.toNat)<=sumC cX x.2:=sumC_le cX_nonneg x.2 i.toNat
  have hcx:=cX_nonneg r
  obtain ⟨x1,hx1⟩: ∃y,y=(mkX k1 r).2.map orow:=⟨_,rfl⟩
  have hrow0:es.getD i.toNat []= [E.sl x1]:=by
   rw [hx1,he,mkXs,List.getD,List.getElem?_map,List.getElem?_map,mkL_get _ _ _ _ _ _ hr,hk1]
   rfl
  obtain ⟨k2,hk2'⟩: ∃k2:Int,k2=k1+cX r:=⟨_,rfl⟩
  have h303:=ok98 r x1 k1 hx1 (by omega) (by omega)
  rw [<-hk2'] at h303
  have e2:A.lt k2 0=false:=by rw [hA.lt];exact decide_eq_false (by omega)
  have hK2: ∀(env:List (Nat×D)),subL [(5,.int (i+1)),(0,.e (.sl es)),(1,.int k2)] env->K' ⟨env, []⟩:=fun env q=>
   hK _ (m-1) _ (by omega) (Weak.keep q) ⟨i+1,k2,by omega,by omega,(by rw [show (i+1).toNat=i.toNat+1 by omega];omega),rfl⟩
  clear hK he hdr hc0 hcd hk1 hx1 hk2' hk2
  cbv
  repeat' first | exact W1 | (simp only [e1,e2];cbv) | refine WA ?_ ?_ | with_reducible intro hcc | refine WS ?_ | refine WK hA hP ?_ | (refine hA.LenE hze fun hb=>?_;cbv) | (refine hA.RowE hin hrow0 ?_;cbv) | refine W6 ?_ | ((with_reducible first | refine hA.Len fun z hz hb=>?_ | refine hA.Off fun b hb=>?_);cbv) | ((with_reducible first | refine hA.Sapp ?_ fun sl hsl=>?_);rotate_left;cbv) | refine WL ?_ | fail
  all_goals try simp only [hA.sm,n_cast] at *
  all_goals first
   | omega
   | exact hK2 _ ⟨rfl,rfl,rfl,trivial⟩
   | (have:=hb trivial trivial trivial;omega)
 ·have e1:A.lt i ze=false:=by rw [hA.lt];exact decide_eq_false (by omega)
  have hkk:k1=kr:=by
   rw [List.drop_eq_nil_of_le (by omega)] at hk1
   simp only [sumC] at hk1
   omega
  subst hkk
  clear hK he hk1
  cbv
  repeat' first | exact W1 | (simp only [e1];cbv) | refine WA ?_ ?_ | with_reducible intro hcc | refine WS ?_ | (refine hA.LenE hze fun hb=>?_;cbv) | refine W6 ?_ | ((with_reducible first | refine hA.Len fun z hz hb=>?_ | refine hA.Off fun b hb=>?_);cbv) | ((with_reducible first | refine hA.Sapp ?_ fun sl hsl=>?_);rotate_left;cbv) | refine WL ?_ | fail
  all_goals try simp only [hA.sm,n_cast] at *
  all_goals first
   | omega)
theorem ok46 (L:List Nf) (es:List (List E)) (k:Int) (he:es=(mkL mkF cF k L).map fun n=>fdr n.d) (hk:0<=k) (hk2:k+sumC cF L<=140737488355328):Plain Tryz.prog 46 [.e (.sl es),.int k] (.int (k+sumC cF L)):=okOf mixed p46 fun A P hA hP=>(by
 have hl1:es.length=L.length:=by rw [he,List.length_map,mkL_len]
 obtain ⟨kr,hkr⟩: ∃r,r=k+sumC cF L:=⟨_,rfl⟩
 obtain ⟨ze,hze⟩: ∃z:Int,z=es.length:=⟨_,rfl⟩
 rw [<-hkr]
 cbv
 repeat' first | exact W1 | refine WA ?_ ?_ | with_reducible intro hcc | refine WS ?_ | refine W6 ?_ | ((with_reducible first | refine hA.Len fun z hz hb=>?_ | refine hA.Off fun b hb=>?_ | refine hA.Plus fun b hb=>?_);cbv) | ((with_reducible first | refine hA.Sapp ?_ fun sl hsl=>?_);rotate_left;cbv) | refine WL ?_ | fail
 all_goals try simp only [hA.sm,n_cast] at *
 all_goals try omega
 refine hA.loopI (fun m s=> ∃(i k1:Int),0<=i/\m+i=es.length/\k1=k+sumC cF L-sumC cF (L.drop i.toNat)/\s=⟨[(5,.int i),(0,.e (.sl es)),(1,.int k1)], []⟩) es.length _
   (Weak.keep (env':= [(5,.int 0),(0,.e (.sl es)),(1,.int k)]) ⟨rfl,rfl,rfl,trivial⟩) ⟨0,k,by omega,by omega,(by rw [show (0:Int).toNat=0 from rfl,List.drop_zero];omega),rfl⟩ ?_
 rintro m s K' ⟨i,k1,h0,h1,hk1,rfl⟩ hK
 by_cases hin:(0:Int)<=i/\i<es.length
 ·have e1:A.lt i ze=true:=by rw [hA.lt];exact decide_eq_true (by omega)
  obtain ⟨d,hr⟩: ∃r,L[i.toNat]?=some r:=⟨_,List.getElem?_eq_getElem (by omega)⟩
  have hdr:=sumC_drop (c:=cF) hr
  have hc0:=sumC_nonneg cF_nonneg (L.drop (i.toNat+1))
  have hcd:sumC cF (L.drop i.toNat)<=sumC cF L:=sumC_le cF_nonneg L i.toNat
  have hcx:=cX_nonneg d.Ex
  have hcxs:=cXs_nonneg d.Exs
  have hcf:cF d=6+cX d.Ex+cXs d.Exs:=rfl
  obtain ⟨ka,hka⟩: ∃k,k=A.add k1 1:=⟨_,rfl⟩
  obtain ⟨kb,hkb⟩: ∃k,k=A.add ka 1:=⟨_,rfl⟩
  obtain ⟨kc,hkc⟩: ∃k,k=A.add kb 1:=⟨_,rfl⟩
  obtain ⟨kd,hkd⟩: ∃k,k=A.add kc 1:=⟨_,rfl⟩
  have hka':ka=k1+1:=by rw [hka,hA.add]
  have hkb':kb=k1+2:=by rw [hkb,hA.add];omega
  have hkc':kc=k1+3:=by rw [hkc,hA.add];omega
  have hkd':kd=k1+4:=by rw [hkd,hA.add];omega
  obtain ⟨ke,hke⟩: ∃k,k=kd+cX d.Ex:=⟨_,rfl⟩
  obtain ⟨kf,hkf⟩: ∃k,k=ke+cXs d.Exs:=⟨_,rfl⟩
  obtain ⟨kg,hkg⟩: ∃k,k=A.add kf 1:=⟨_,rfl⟩
  have hkg':kg=kf+1:=by rw [hkg,hA.add]
  obtain ⟨x4,hx4⟩: ∃y,y=(mkX kd d.Ex).2.map orow:=⟨_,rfl⟩
  obtain ⟨x5,hx5⟩: ∃y,y=((mkXs ke d.Exs).2.map Prod.snd).map orr:=⟨_,rfl⟩
  have hrow0:es.getD i.toNat []= [E.int k1,E.int ka,E.int kb,E.int kc,E.sl x4,E.sl x5,E.int kf,E.int kg]:=by
   rw [he,List.getD,List.getElem?_map,mkL_get _ _ _ _ _ _ hr,<-hk1]
   show fdr (mkF k1 d).d=_
   simp only [mkF,Nf.d,fdr]
   rw [hx4,hx5,hka',hkb',hkc',hkg',hkf,hke,hkd']
  have h303:=ok98 d.Ex x4 kd hx4 (by omega) (by omega)
  have h304:=ok99 d.Exs x5 ke hx5 (by omega) (by omega)
  rw [<-hke] at h303
  rw [<-hkf] at h304
  have e2: ∀k,A.eq k k=true:=fun k=>by rw [hA.eq];exact decide_eq_true rfl
  have e3:A.lt ke 0=false:=by rw [hA.lt];exact decide_eq_false (by omega)
  have e4:A.lt kf 0=false:=by rw [hA.lt];exact decide_eq_false (by omega)
  have hbd:0<=k1/\kg+1<=140737488355328:=by omega
  have hK2: ∀(env:List (Nat×D)),subL [(5,.int (i+1)),(0,.e (.sl es)),(1,.int (kg+1))] env->K' ⟨env, []⟩:=fun env q=>
   hK _ (m-1) _ (by omega) (Weak.keep q) ⟨i+1,kg+1,by omega,by omega,(by rw [show (i+1).toNat=i.toNat+1 by omega];omega),rfl⟩
  clear hK he hdr hc0 hcd hk1 hx4 hx5 hk2
  cbv
  repeat' first | exact W1 | (simp only [e1,e2,e3,e4,<-hka,<-hkb,<-hkc,<-hkd,<-hkg];cbv) | refine WA ?_ ?_ | with_reducible intro hcc | refine WS ?_ | refine WK hA hP ?_ | (refine hA.LenE hze fun hb=>?_;cbv) | (refine hA.RowE hin hrow0 ?_;cbv) | refine W6 ?_ | ((with_reducible first | refine hA.Len fun z hz hb=>?_ | refine hA.Off fun b hb=>?_ | refine hA.Plus fun b hb=>?_);cbv) | ((with_reducible first | refine hA.Sapp ?_ fun sl hsl=>?_);rotate_left;cbv) | refine WL ?_ | fail
  all_goals try simp only [hA.sm,n_cast] at *
  all_goals first
   | omega
   | exact hK2 _ ⟨rfl,rfl,rfl,trivial⟩
   | (have:=hb trivial trivial trivial;omega)
 ·have e1:A.lt i ze=false:=by rw [hA.lt];exact decide_eq_false (by omega)
  have hkk:k1=kr:=by
   rw [List.drop_eq_nil_of_le (by omega)] at hk1
   simp only [sumC] at hk1
   omega
  subst hkk
  clear hK he hk1
  cbv
  repeat' first | exact W1 | (simp only [e1];cbv) | refine WA ?_ ?_ | with_reducible intro hcc | refine WS ?_ | (refine hA.LenE hze fun hb=>?_;cbv) | refine W6 ?_ | ((with_reducible first | refine hA.Len fun z hz hb=>?_ | refine hA.Off fun b hb=>?_ | refine hA.Plus fun b hb=>?_);cbv) | ((with_reducible first | refine hA.Sapp ?_ fun sl hsl=>?_);rotate_left;cbv) | refine WL ?_ | fail
  all_goals try simp only [hA.sm,n_cast] at *
  all_goals first
   | omega)
theorem ok18 (i:Nat) (L:List Nf) (root k:Int) (hk:0<=k) (hk2:k+sumC cF L<=140737488355328):Plain Tryz.prog 18 [.agg [.e (eFs i (mkL mkF cF k L)).un,.int root],.int k] (.int (k+sumC cF L)):=okOf mixed p18 fun A P hA hP=>(by
 rw [eFs_un]
 have h0:=sumC_nonneg cF_nonneg L
 have h265:=ok46 L _ k rfl hk hk2
 obtain ⟨es,hes⟩: ∃es,es=(mkL mkF cF k L).map fun n=>fdr n.d:=⟨_,rfl⟩
 obtain ⟨k2,hk2'⟩: ∃k2,k2=k+sumC cF L:=⟨_,rfl⟩
 rw [<-hes,<-hk2'] at h265
 rw [<-hes,<-hk2']
 have e3:A.lt k2 0=false:=by rw [hA.lt];exact decide_eq_false (by omega)
 clear hes
 cbv
 repeat' first | exact W1 | (simp only [e3];cbv) | refine WA ?_ ?_ | with_reducible intro hcc | refine WS ?_ | refine WK hA hP ?_ | refine W6 ?_ | refine WL ?_ | fail
 all_goals try simp only [hA.sm,n_cast] at *
 all_goals first
  | omega)
end Go.Proofs.YtfplalbognalkaaGreat.Ab
/- Marks in tables, walked. -/
namespace Go.Proofs.YtfplalbognalkaaGreat.Ab
open Go
def c97:F:=⟨20, [(.tmp 2)],(.seq (.reg [ZA 2 (.mov (.c (.str [])))]) (.seq (.seq (.reg [ZM 4 0,ZA 5 (.bin .leq 4 (.c (.int 0)))]) (.cond 5 (.seq (.reg [ZA 2 (.mov (.c (.str [109,48])))]) .ret) .skip)) (.seq (.reg [ZA 3 (.mov (.c (.str [])))]) (.seq (.block 0 (.loop (.seq (.seq (.reg [ZM 6 0,ZA 7 (.bin .gtr 6 (.c (.int 0)))]) (.cond 7 .skip (.exit 0))) (.block 1 (.seq (.reg [ZM 8 0,ZA 9 (.bin .rem 8 (.c (.int 10))),ZA 10 (.bin .add (.c (.int 48)) 9),ZA 11 (.convi .u8 10),ZA 12 (.lit 1 [(.v (.int .u8 0))] 1 [(0,11)]),ZA 13 (.convbs 12),ZM 14 3,ZA 15 (.bin .add 13 14),ZM 3 15]) (.reg [ZM 16 0,ZA 17 (.bin .quo 16 (.c (.int 10))),ZM 0 17])))))) (.seq (.reg [ZM 18 3,ZA 19 (.bin .add (.c (.str [109])) 18),ZM 2 19]) .ret)))))⟩
theorem p97:prepF Tryz.prog 97=some c97:=by kernel_rfl
def c44:F:=⟨35, [(.tmp 4)],(.seq (.reg [ZA 4 (.mov (.c (.int 0)))]) (.seq (.seq (.reg [ZA 5 (.mov (.c (.int 0)))]) (.block 0 (.loop (.seq (.seq (.reg [ZM 6 5,ZM 7 0,ZA 8 (.lenl 7),ZA 9 (.bin .lss 6 8)]) (.cond 9 .skip (.exit 0))) (.seq (.block 1 (.seq (.reg [ZM 12 0,ZM 13 5,ZM 14 1,ZC 15 97 [14],ZA 16 (.iadr none 3 12 13),ZE 17 0 16,ZN (.store false 1 17 15)]) (.seq (.reg [ZM 18 1,ZA 19 (.bin .add 18 (.c (.int 1))),ZM 1 19]) (.seq (.reg [ZM 20 0,ZM 21 5,ZM 22 1,ZA 23 (.iadr none 3 20 21),ZE 24 1 23,ZN (.store false 1 24 22)]) (.seq (.reg [ZM 25 1,ZA 26 (.bin .add 25 (.c (.int 1))),ZM 1 26]) (.reg [ZM 27 0,ZM 28 5,ZA 29 (.iadr none 3 27 28),ZE 30 2 29,ZL 31 30,ZM 32 1,ZC 33 22 [31,32],ZM 1 33])))))) (.reg [ZM 10 5,ZA 11 (.bin .add 10 (.c (.int 1))),ZM 5 11])))))) (.seq (.reg [ZM 34 1,ZM 4 34]) .ret)))⟩
theorem p44:prepF Tryz.prog 44=some c44:=by kernel_rfl
def c16:F:=⟨10, [(.tmp 4)],(.seq (.reg [ZA 2 (.box 0),ZA 4 (.mov (.c (.int 0)))]) (.seq (.reg [ZE 5 0 2,ZL 6 5,ZM 7 1,ZC 8 44 [6,7],ZM 1 8]) (.seq (.reg [ZM 9 1,ZM 4 9]) .ret)))⟩
theorem p16:prepF Tryz.prog 16=some c16:=by kernel_rfl
def digs:Nat->Int->List UInt8->List UInt8
 | 0,_,acc=>acc
 | f+1,k,acc=>if k<=0 then acc else digs f (k / 10) (UInt8.ofNat (48+k % 10).toNat::acc)
theorem digs_done (f:Nat) (k:Int) (acc:List UInt8) (h:k<=0):digs f k acc=acc:=by
 cases f with
 | zero=>rfl
 | succ f=>rw [digs,if_pos h]
def mt (k:Int):List UInt8:=if k<=0 then [109,48] else 109::digs 48 k []
theorem ok97 (k:Int) (hk:0<=k) (hk2:k<=140737488355328):Plain Tryz.prog 97 [.int k] (.str (mt k)):=okOf mixed p97 fun A P hA hP=>(by
 by_cases h0:k<=0
 ·have hm:mt k= [109,48]:=by rw [mt,if_pos h0]
  have e1:A.le k 0=true:=by rw [hA.le];exact decide_eq_true h0
  rw [hm]
  cbv
  repeat' first | exact W1 | (simp only [e1];cbv) | refine WA ?_ ?_ | with_reducible intro hcc | refine WS ?_ | refine W6 ?_ | ((with_reducible first | refine hA.Sapp ?_ fun sl hsl=>?_);rotate_left;cbv) | refine WL ?_ | fail
  all_goals try simp only [hA.sm,n_cast] at *
  all_goals first
   | omega
   | rfl
 ·obtain ⟨r,hr⟩: ∃r,r=digs 48 k []:=⟨_,rfl⟩
  have hm:mt k=109::r:=by rw [mt,if_neg h0,hr]
  obtain ⟨rr,hrr⟩: ∃rr,rr=(109:UInt8)::r:=⟨_,rfl⟩
  rw [hm,<-hrr]
  have e1:A.le k 0=false:=by rw [hA.le];exact decide_eq_false h0
  cbv
  repeat' first | exact W1 | (simp only [e1];cbv) | refine WA ?_ ?_ | with_reducible intro hcc | refine WS ?_ | refine W6 ?_ | ((with_reducible first | refine hA.Sapp ?_ fun sl hsl=>?_);rotate_left;cbv) | refine WL ?_ | fail
  all_goals try simp only [hA.sm,n_cast] at *
  all_goals try omega
  refine hA.loopI (fun m s=> ∃(k1:Int) (out:List UInt8),0<=k1/\k1<=140737488355328/\k1<2^m/\m+out.length=48/\digs m k1 out=r/\s=⟨[(0,.int k1),(3,.str out)], []⟩) 48 _
   (Weak.keep (env':= [(0,.int k),(3,.str [])]) ⟨rfl,rfl,trivial⟩) ⟨k, [],by omega,by omega,by omega,rfl,hr.symm,rfl⟩ ?_
  rintro m s K' ⟨k1,out,i0,i9,i1,i2,i3,rfl⟩ hK
  by_cases h1:k1<=0
  ·have e2:A.lt 0 k1=false:=by rw [hA.lt];exact decide_eq_false (by omega)
   have hout:out=r:=by rw [<-i3,digs_done _ _ _ h1]
   subst hout
   clear hK hm
   cbv
   repeat' first | exact W1 | (simp only [e2];cbv) | refine WA ?_ ?_ | with_reducible intro hcc | refine WS ?_ | refine W6 ?_ | ((with_reducible first | refine hA.Sapp ?_ fun sl hsl=>?_);rotate_left;cbv) | refine WL ?_ | fail
   all_goals try simp only [hA.sm,n_cast] at *
   all_goals first
    | omega
    | (rw [hsl,hrr];rfl)
    | (simp only [List.length_cons,List.length_nil];omega)
    | (subst_vars;rfl)
  ·have e2:A.lt 0 k1=true:=by rw [hA.lt];exact decide_eq_true (by omega)
   obtain ⟨m',rfl⟩: ∃m',m=m'+1:=by
    cases m with
    | zero=>simp at i1;omega
    | succ m=>exact ⟨m,rfl⟩
   have hp:(2:Int)^(m'+1)=2^m' * 2:=Int.pow_succ 2 m'
   rw [digs,if_neg h1] at i3
   obtain ⟨dm,hdm⟩: ∃d,d=A.mod k1 10:=⟨_,rfl⟩
   obtain ⟨dg,hdg⟩: ∃d,d=A.add 48 dm:=⟨_,rfl⟩
   have hdm':dm=k1 % 10:=by rw [hdm,hA.mod]
   have hdg':dg=48+k1 % 10:=by rw [hdg,hA.add,hdm']
   obtain ⟨b0,hb0⟩: ∃b,b=UInt8.ofNat (48+k1 % 10).toNat:=⟨_,rfl⟩
   rw [<-hb0] at i3
   have hby:([[E.v (Value.int .u8 dg)]]:List (List E))=bytesE [b0]:=by
    have:(b0.toNat:Int)=dg:=by
     rw [hb0,hdg',UInt8.toNat_ofNat']
     omega
    rw [bytesE,List.map_cons,List.map_nil,this]
   have hdr:48<=dg/\dg<=57:=by omega
   have hK2: ∀(sl:List UInt8) (env:List (Nat×D)) (hp:List O),sl= [b0]++out->subL [(0,.int (k1 / 10)),(3,.str sl)] env->K' ⟨env,hp⟩:=fun sl env hp q1 q2=>
    hK _ m' _ (by omega) (Weak.gc q2 rfl) ⟨k1 / 10,sl,by omega,by omega,by omega,by rw [q1];simp only [List.length_append,List.length_cons,List.length_nil];omega,by rw [q1];exact i3,rfl⟩
   clear hK hm i3 hb0
   cbv
   repeat' first | exact W1 | (simp only [e2,<-hdm,<-hdg];cbv) | refine WA ?_ ?_ | with_reducible intro hcc | refine WS ?_ | ((with_reducible refine hA.b2s _ _ [b0] hby ?_);cbv) | refine W6 ?_ | ((with_reducible first | refine hA.Sapp ?_ fun sl hsl=>?_);rotate_left;cbv) | refine WL ?_ | fail
   all_goals try simp only [hA.sm,n_cast] at *
   all_goals first
    | omega
    | exact hK2 _ _ _ (by assumption) ⟨rfl,rfl,trivial⟩
    | (simp only [List.length_cons,List.length_nil];omega))
abbrev Nt:=List UInt8×Int×(Nat×List NS.Row)
def eRs (x:Nat×List NS.Row):E:= .fs x.1 (x.2.map NS.nrow)
abbrev ntr (t:Nt):List E:= [E.str t.1,E.int t.2.1,eRs t.2.2]
def Nt.t (t:Nt):Tb:=(t.1,t.2.1,t.2.2.2.map Prod.snd)
def cNt (t:Nt):Int:=2+NS.cnt t.2.2.2
theorem cNt_nonneg (t:Nt):0<=cNt t:=by have:=NS.cnt_nonneg t.2.2.2;unfold cNt;omega
def mkT (k:Int) (t:Nt):Nt:=(mt k,k+1,t.2.2.1,NS.mkR (k+2) t.2.2.2)
def eTs (i:Nat) (l:List Nt):E:= .fs i (l.map ntr)
theorem w264 (L:List Nt) (vs:List Value) (hv:vs.length=(L.map ntr).flatten.length) (k:Int) (hk:0<=k) (hk2:k+sumC cNt L<=140737488355328) (hlen:L.length<=1048576) (hlx: ∀n∈L,n.2.2.2.length<=1048576):
  Proc Tryz.prog 44 (fun t=> [.vec (t 0) (L.map ntr).length 3,.int k]) (fun _=> [.vec true 3 (cells vs (L.map ntr).flatten),.res (Trees vs ((L.map ntr).flatten.map trk))]) (fun _=> .int (k+sumC cNt L))
   (fun _=> [.vec true 3 (cells vs ((mkL mkT cNt k L).map ntr).flatten),.res (Trees vs (((mkL mkT cNt k L).map ntr).flatten.map trk))]):=procOf mixed p44 res_side fun A P hA hP=>(by
 obtain ⟨kr,hkr⟩: ∃r,r=k+sumC cNt L:=⟨_,rfl⟩
 obtain ⟨xs0,hxs0⟩: ∃xs,xs=L.map ntr:=⟨_,rfl⟩
 obtain ⟨n,hn⟩: ∃n,n=L.length:=⟨_,rfl⟩
 have hnx:xs0.length=n:=by rw [hxs0,hn,List.length_map]
 rw [<-hxs0] at hv ⊢
 rw [hnx]
 obtain ⟨ts,hts⟩: ∃ts,ts=(mkL mkT cNt k L).map ntr:=⟨_,rfl⟩
 have htl:ts.length=n:=by rw [hts,List.length_map,mkL_len,hn]
 obtain ⟨ds0,hds0⟩: ∃ds,ds=cells vs xs0.flatten:=⟨_,rfl⟩
 obtain ⟨R0,hR0⟩: ∃R,R=Trees vs (xs0.flatten.map trk):=⟨_,rfl⟩
 obtain ⟨dsF,hdsF⟩: ∃ds,ds=cells vs ts.flatten:=⟨_,rfl⟩
 obtain ⟨RF,hRF⟩: ∃R,R=Trees vs (ts.flatten.map trk):=⟨_,rfl⟩
 have V0:VS 3 vs xs0 ds0 R0:=⟨fun e h=>by rw [hxs0] at h;obtain ⟨p,_,rfl⟩:=List.mem_map.1 h;rfl,hv,hds0,hR0⟩
 rw [<-hkr,<-hds0,<-hR0,<-hts,<-hdsF,<-hRF]
 cbv
 repeat' first | exact W1 | refine WA ?_ ?_ | with_reducible intro hcc | refine WS ?_ | refine W6 ?_ | ((with_reducible first | refine hA.Len fun z hz hb=>?_ | refine hA.Off fun b hb=>?_ | refine hA.Plus fun b hb=>?_);cbv) | ((with_reducible first | refine hA.Sto ?_ fun ds hds=>?_ | refine hA.Sapp ?_ fun sl hsl=>?_);rotate_left;cbv) | refine WL ?_ | fail
 all_goals try simp only [hA.sm,n_cast] at *
 all_goals try omega
 refine hA.loopI (fun m s=> ∃(i k1:Int) (xs:List (List E)) (ds:List D) (R:World->Value->List Nat->Prop),0<=i/\m+i=n/\k1=k+sumC cNt L-sumC cNt (L.drop i.toNat)/\VS 3 vs xs ds R/\xs.length=n/\(∀j:Nat,j<i->xs[j]?=ts[j]?)/\(∀j:Nat,i<=j->xs[j]?=xs0[j]?)/\
    s=⟨[(5,.int i),(0,.vec 0 n 3),(1,.int k1)], [.vec true 3 ds,.res R]⟩) n _
   (Weak.keep (env':= [(5,.int 0),(0,.vec 0 n 3),(1,.int k)]) ⟨rfl,rfl,rfl,trivial⟩)
   ⟨0,k,xs0,ds0,R0,by omega,by omega,(by rw [show (0:Int).toNat=0 from rfl,List.drop_zero];omega),V0,hnx,(fun j hj=>by omega),(fun j _=>rfl),rfl⟩ ?_
 rintro m s K' ⟨i,k1,xs,ds,R,h0,h1,hk1,hV,h2,h3,h4,rfl⟩ hK
 have hdl:ds.length=xs.length * 3:=hV.len
 by_cases hin:(0:Int)<=i/\i<n
 ·have e1:A.lt i (Int.ofNat n)=true:=by rw [hA.lt,Int.ofNat_eq_natCast];exact decide_eq_true (by omega)
  obtain ⟨d,hr⟩: ∃r,L[i.toNat]?=some r:=⟨_,List.getElem?_eq_getElem (by omega)⟩
  have hdr:=sumC_drop (c:=cNt) hr
  have hc0:=sumC_nonneg cNt_nonneg (L.drop (i.toNat+1))
  have hcd:sumC cNt (L.drop i.toNat)<=sumC cNt L:=sumC_le cNt_nonneg L i.toNat
  have hxi:xs[i.toNat]?=some (ntr d):=by rw [h4 i.toNat (by omega),hxs0,List.getElem?_map,hr];rfl
  have hcx:=NS.cnt_nonneg d.2.2.2
  have hcf:cNt d=2+NS.cnt d.2.2.2:=rfl
  have hlx':=hlx d (List.mem_of_getElem? hr)
  obtain ⟨ka,hka⟩: ∃k,k=A.add k1 1:=⟨_,rfl⟩
  obtain ⟨kb,hkb⟩: ∃k,k=A.add ka 1:=⟨_,rfl⟩
  have hka':ka=k1+1:=by rw [hka,hA.add]
  have hkb':kb=k1+2:=by rw [hkb,hA.add];omega
  obtain ⟨ke,hke⟩: ∃k,k=kb+NS.cnt d.2.2.2:=⟨_,rfl⟩
  obtain ⟨nm,hnm⟩: ∃s,s=mt k1:=⟨_,rfl⟩
  have h302:=ok97 k1 (by omega) (by omega)
  rw [<-hnm] at h302
  have m2:MarkC Tryz.prog 22 id (eRs d.2.2) (eRs (d.2.2.1,NS.mkR kb d.2.2.2)) kb ke:=by
   rw [hke]
   exact NS.ok22 d.2.2.2 d.2.2.1 kb (by omega) (by omega) hlx'
  obtain ⟨v2,hv2,hd2⟩:=hV.ld hxi (c:=2) rfl rfl
  have V1:=hV.st (c:=0) (x':= .string ⟨⟨nm⟩⟩) hxi rfl rfl rfl
  have V2:=V1.st (c:=1) (x':= .int .i64 ka) (set_get hxi) rfl rfl rfl
  obtain ⟨R2,V3,hcal⟩:=V2.mark (c:=2) (e:=eRs d.2.2) (e':=eRs (d.2.2.1,NS.mkR kb d.2.2.2)) (set_get (set_get hxi)) rfl rfl rfl hv2 m2
  have hcal:=hcal 1
  have ch: ∀ {d1 d2:List D} {b1 b2:Nat},d2=d1.take b2++ [.e (E.int ka)]++d1.drop (b2+1)->d1=ds.take b1++ [.e (E.str nm)]++ds.drop (b1+1)->
    b1=i.toNat * 3+0->b2=i.toNat * 3+1->VS 3 vs ((xs.set i.toNat _).set i.toNat _) d2 R:=fun {d1 d2 b1 b2} q2 q1 p1 p2=>
   (hV.st (c:=0) (x':= .string ⟨⟨nm⟩⟩) hxi rfl p1 q1).st (c:=1) (x':= .int .i64 ka) (set_get hxi) rfl p2 q2
  have ld2: ∀ {d1 d2:List D} {b1 b2 b:Nat} {c:D},d2=d1.take b2++ [.e (E.int ka)]++d1.drop (b2+1)->d1=ds.take b1++ [.e (E.str nm)]++ds.drop (b1+1)->
    b1=i.toNat * 3+0->b2=i.toNat * 3+1->b=i.toNat * 3+2->c=d2.getD b default->c= .e (.v v2):=fun {d1 d2 b1 b2 b c} q2 q1 p1 p2 p5 q5=>by
   obtain ⟨v,g1,g2⟩:=(ch q2 q1 p1 p2).ld (c:=2) (e:=eRs d.2.2) (set_get (set_get hxi)) rfl rfl
   rw [hv2] at g1
   cases g1
   rw [q5,p5,List.getD,g2]
   rfl
  have hK2: ∀ {d1 d2:List D} {b1 b2:Nat} (env:List (Nat×D)),d2=d1.take b2++ [.e (E.int ka)]++d1.drop (b2+1)->d1=ds.take b1++ [.e (E.str nm)]++ds.drop (b1+1)->
    b1=i.toNat * 3+0->b2=i.toNat * 3+1->
    subL [(5,.int (i+1)),(0,.vec 0 n 3),(1,.int ke)] env->K' ⟨env, [.vec true 3 d2,.res R2]⟩:=fun {d1 d2 b1 b2} env q2 q1 p1 p2 q=>by
   have W:=(ch q2 q1 p1 p2).same V2 V3
   simp only [List.set_set] at W
   refine hK _ (m-1) _ (by omega) (Weak.keep q) ⟨i+1,ke,_,d2,R2,by omega,by omega,?_,W,?_,fun j hj=>?_,fun j hj=>?_,rfl⟩
   ·rw [show (i+1).toNat=i.toNat+1 by omega];omega
   ·rw [List.length_set];exact h2
   ·by_cases hji:(j:Int)<i
    ·rw [List.getElem?_set_ne (show i.toNat≠j by omega)];exact h3 j hji
    ·have:j=i.toNat:=by omega
     subst this
     rw [List.getElem?_set_self (by omega),hts,List.getElem?_map,mkL_get _ _ _ _ _ _ hr,<-hk1]
     show some [E.str nm,E.int ka,eRs (d.2.2.1,NS.mkR kb d.2.2.2)]=some (ntr (mkT k1 d))
     simp only [mkT,ntr]
     rw [hka',hkb',hnm]
   ·rw [List.getElem?_set_ne (show i.toNat≠j by omega)];exact h4 j (by omega)
  have hbd:0<=k1/\ke<=140737488355328:=by omega
  clear hK h3 h4 m2 hk1 hdr hxi hV V1 V2 V3 V0 hts ch hd2 hv2 hnm
  cbv
  repeat' first | exact W1 | (simp only [e1,<-hka,<-hkb];cbv) | refine WA ?_ ?_ | with_reducible intro hcc | refine WS ?_ | ((with_reducible first | refine callK_f hA hP h302 ?_ ?_ ?_);exact rfl;exact rfl;cbv) | ((with_reducible show A.call _ _ _ _ _ 22 _ _ _);refine callK_res hA hP rfl ?_ hcal;cbv) | ((with_reducible refine hA.ld1 _ _ _ ⟨?_,fun c hc=>?_⟩);rotate_left;(have e9:=ld2 (by assumption) (by assumption) (by omega) (by omega) (by omega) hc);subst e9;cbv) | refine W6 ?_ | ((with_reducible first | refine hA.Len fun z hz hb=>?_ | refine hA.Off fun b hb=>?_ | refine hA.Plus fun b hb=>?_);cbv) | ((with_reducible first | refine hA.Sto ?_ fun ds hds=>?_ | refine hA.Sapp ?_ fun sl hsl=>?_);rotate_left;cbv) | refine WL ?_ | fail
  all_goals try simp only [hA.sm,n_cast] at *
  all_goals first
   | omega
   | exact hK2 _ (by assumption) (by assumption) (by omega) (by omega) ⟨rfl,rfl,rfl,trivial⟩
   | exact finv_refl hA
   | (subst_vars;simp only [List.length_append,List.length_take,List.length_drop,List.length_cons,List.length_nil];omega)
 ·have e1:A.lt i (Int.ofNat n)=false:=by rw [hA.lt,Int.ofNat_eq_natCast];exact decide_eq_false (by omega)
  have hte:xs=ts:=by
   refine List.ext_getElem? fun j=>?_
   by_cases hj:(j:Int)<i
   ·exact h3 j hj
   ·rw [List.getElem?_eq_none (by omega),List.getElem?_eq_none (by omega)]
  have hRR:R=RF:=by rw [hV.hR,hRF,hte]
  have hdd:ds=dsF:=by rw [hV.hd,hdsF,hte]
  have hkk:k1=kr:=by
   rw [List.drop_eq_nil_of_le (by omega)] at hk1
   simp only [sumC] at hk1
   omega
  clear hK h3 h4 hV V0 hR0 hds0 hdsF hRF
  subst hRR hkk hdd
  cbv
  repeat' first | exact W1 | (simp only [e1];cbv) | refine WA ?_ ?_ | with_reducible intro hcc | refine WS ?_ | refine W6 ?_ | ((with_reducible first | refine hA.Len fun z hz hb=>?_ | refine hA.Off fun b hb=>?_ | refine hA.Plus fun b hb=>?_);cbv) | ((with_reducible first | refine hA.Sto ?_ fun ds hds=>?_ | refine hA.Sapp ?_ fun sl hsl=>?_);rotate_left;cbv) | refine WL ?_ | fail
  all_goals try simp only [hA.sm,n_cast] at *
  all_goals first
   | omega
   | exact finv_refl hA)
theorem ok44z (k:Int) (hk:0<=k) (hk2:k<=140737488355328):Plain Tryz.prog 44 [.e (.sl []),.int k] (.int k):=okOf mixed p44 fun A P hA hP=>(by
 obtain ⟨es,hes⟩: ∃es:List (List E),es= []:=⟨_,rfl⟩
 have hl:es.length=0:=by rw [hes];rfl
 obtain ⟨i0,hi0⟩: ∃i:Int,i=0:=⟨_,rfl⟩
 obtain ⟨z1,hz1⟩: ∃z:Int,z=es.length:=⟨_,rfl⟩
 rw [<-hes]
 cbv
 repeat' first | exact W1 | refine WA ?_ ?_ | with_reducible intro hcc | refine WS ?_ | refine W6 ?_ | ((with_reducible first | refine hA.Len fun z hz hb=>?_ | refine hA.Off fun b hb=>?_ | refine hA.Plus fun b hb=>?_);cbv) | ((with_reducible first | refine hA.Sto ?_ fun ds hds=>?_ | refine hA.Sapp ?_ fun sl hsl=>?_);rotate_left;cbv) | refine WL ?_ | fail
 all_goals try simp only [hA.sm,n_cast] at *
 all_goals try omega
 refine hA.loopI (fun m s=>s=⟨[(5,.int i0),(0,.e (.sl es)),(1,.int k)], []⟩) 0 _
   (Weak.keep (env':= [(5,.int i0),(0,.e (.sl es)),(1,.int k)]) ⟨by rw [hi0];rfl,rfl,rfl,trivial⟩) rfl ?_
 rintro m s K' rfl hK
 have e1:A.lt i0 z1=false:=by rw [hA.lt];exact decide_eq_false (by omega)
 cbv
 repeat' first | exact W1 | (simp only [e1];cbv) | refine WA ?_ ?_ | with_reducible intro hcc | refine WS ?_ | (refine hA.LenE hz1 fun hb=>?_;cbv) | refine W6 ?_ | ((with_reducible first | refine hA.Len fun z hz hb=>?_ | refine hA.Off fun b hb=>?_ | refine hA.Plus fun b hb=>?_);cbv) | ((with_reducible first | refine hA.Sto ?_ fun ds hds=>?_ | refine hA.Sapp ?_ fun sl hsl=>?_);rotate_left;cbv) | refine WL ?_ | fail
 all_goals try simp only [hA.sm,n_cast] at *
 all_goals first
  | omega)
theorem mark264 (i:Nat) (L:List Nt) (k:Int) (hk:0<=k) (hk2:k+sumC cNt L<=140737488355328) (hlen:L.length<=1048576) (hlx: ∀n∈L,n.2.2.2.length<=1048576):MarkC Tryz.prog 44 id (eTs i L) (eTs i (mkL mkT cNt k L)) k (k+sumC cNt L):=by
 have h0:=sumC_nonneg cNt_nonneg L
 have hk1: ∀L:List Nt,∀e∈L.map ntr,e.length=3:=fun L e h=>by
  obtain ⟨p,_,rfl⟩:=List.mem_map.1 h
  rfl
 refine markOuter (k:=3) (sca_alike (k:=3) (fun _=>rfl) (fun a b j=>?_) L _ (mkL_len _ _ _ _)) (by simp [mkL_len]) (hk1 _) (NS.okV_int hk (by omega)) (fun h=>?_) (fun _ _ vs hvs=>?_) (hk1 _)
 ·match j with
  | 0 | 1 | 2=>rfl
  | j+3=>rfl
 ·have h:L= []:=by simpa using h
  have:=ok44z k hk (by omega)
  subst h
  simpa [sumC] using this
 ·exact w264 L vs hvs k hk hk2 hlen hlx
theorem db_side {z z':Int} {R R':World->Value->List Nat->Prop} :Side (fun t=> [.agg [.rv (t 0)],.int z]) (fun _=> [.res R]) (fun _=> .int z') (fun _=> [.res R']):=
 ⟨fun t=>rfl,rfl,fun t=>rfl,by intro o ho;rw [List.mem_singleton] at ho;subst ho;rfl,fun t=>rfl,fun t=>rfl,Nat.le_refl _⟩
theorem mark225 (i:Nat) (L:List Nt) (k:Int) (hk:0<=k) (hk2:k+sumC cNt L<=140737488355328) (hlen:L.length<=1048576) (hlx: ∀n∈L,n.2.2.2.length<=1048576):
  MarkC Tryz.prog 16 (fun v=> .agg #[v]) (eTs i L) (eTs i (mkL mkT cNt k L)) k (k+sumC cNt L):=by
 have h0:=sumC_nonneg cNt_nonneg L
 refine markStruct (d:=fun t=> .agg [.rv (t 0)]) (NS.okV_int hk (by omega)) (fun w G h r=>?_) (procOf mixed p16 db_side fun A P hA hP=>(by
  have hm:=mark264 i L k hk hk2 hlen hlx
  obtain ⟨R0,hR0⟩: ∃R,R=Tree (eTs i L):=⟨_,rfl⟩
  obtain ⟨R1,hR1⟩: ∃R,R=Tree (eTs i (mkL mkT cNt k L)):=⟨_,rfl⟩
  obtain ⟨k2,hk2'⟩: ∃k2,k2=k+sumC cNt L:=⟨_,rfl⟩
  rw [<-hk2'] at hm ⊢
  rw [<-hR0,<-hR1]
  have hcal: ∀f,CallE Tryz.prog 44 [.rv 0,.int k] [(0,.res R0)] f {d:=some (.int k2),wr:= [(0,.res R1)],tc:= [0]} :=fun f=>by
   rw [hR0,hR1]
   exact hm.callE fun _ _ _ _ r=>NS.rv_id r
  clear hm hR0 hR1 hk2'
  cbv
  repeat' first | exact W1 | refine WA ?_ ?_ | with_reducible intro hcc | refine WS ?_ | ((with_reducible show A.call _ _ _ _ _ 44 _ _ _);refine callK_res hA hP rfl ?_ hcal;cbv) | ((with_reducible refine res_fin hA ?_)) | refine W6 ?_ | refine WL ?_ | fail
  all_goals try simp only [hA.sm,n_cast] at *
  all_goals first
   | omega
   | rfl))
 ·refine .agg rfl (fun j c hc=>?_) fun j c d hc hd=>?_
  ·match j with
   | 0=>simp at hc;subst hc;exact rv_one r
   | j+1=>simp at hc
  ·match j with
   | 0=>simp at hc hd;subst hc;subst hd;exact r
   | j+1=>simp at hc
end Go.Proofs.YtfplalbognalkaaGreat.Ab
/- The code of what FlatOk reaches. -/
namespace Go.Proofs.YtfplalbognalkaaGreat.Ab
open Go
def c12:F:=⟨16, [(.tmp 4)],(.seq (.reg [ZA 2 (.box 0),ZA 3 (.box 1),ZA 4 ZF0]) (.seq (.seq (.reg [ZE 5 0 2,ZL 6 5,ZE 7 0 3,ZL 8 7,ZC 9 40 [6,8],ZA 10 (.un .not 9)]) (.cond 10 (.seq (.reg [ZA 4 ZF0]) .ret) .skip)) (.seq (.seq (.reg [ZE 11 1 2,ZL 12 11,ZE 13 1 3,ZL 14 13,ZA 15 (.bin .neq 12 14)]) (.cond 15 (.seq (.reg [ZA 4 ZF0]) .ret) .skip)) (.seq (.reg [ZA 4 ZT0]) .ret))))⟩
theorem p12:prepF Tryz.prog 12=some c12:=by kernel_rfl
def c40:F:=⟨27, [(.tmp 4)],(.seq (.reg [ZA 4 ZF0]) (.seq (.seq (.reg [ZM 6 0,ZA 7 (.lenl 6),ZM 8 1,ZA 9 (.lenl 8),ZA 10 (.bin .neq 7 9)]) (.cond 10 (.seq (.reg [ZA 4 ZF0]) .ret) .skip)) (.seq (.seq (.reg [ZA 5 (.mov (.c (.int 0)))]) (.block 0 (.loop (.seq (.seq (.reg [ZM 11 5,ZM 12 0,ZA 13 (.lenl 12),ZA 14 (.bin .lss 11 13)]) (.cond 14 .skip (.exit 0))) (.seq (.block 1 (.seq (.dreg [⟨ZM 17 0, [], [0]⟩,⟨ZM 18 5, [0], [5]⟩,⟨ZA 19 (.iadr none 8 17 18), [], [17,18]⟩,⟨ZA 20 (.load true 8 19), [], [19]⟩,⟨ZM 21 1, [0,1,2,3], [1]⟩,⟨ZM 22 5, [0,1,2,3,4], [5]⟩,⟨ZA 23 (.iadr none 8 21 22), [0,1,2,3], [21,22]⟩,⟨ZA 24 (.load true 8 23), [0,1,2,3], [23]⟩,⟨ZC 25 92 [20,24], [], [20,24]⟩,⟨ZA 26 (.un .not 25), [], [25]⟩]) (.cond 26 (.seq (.reg [ZA 4 ZF0]) .ret) .skip))) (.reg [ZM 15 5,ZA 16 (.bin .add 15 (.c (.int 1))),ZM 5 16])))))) (.seq (.reg [ZA 4 ZT0]) .ret))))⟩
theorem p40:prepF Tryz.prog 40=some c40:=by kernel_rfl
def c92:F:=⟨47, [(.tmp 4)],(.seq (.reg [ZA 2 (.box 0),ZA 3 (.box 1),ZA 4 ZF0]) (.seq (.seq (.reg [ZE 5 0 2,ZL 6 5,ZE 7 0 3,ZL 8 7,ZA 9 (.bin .neq 6 8)]) (.cond 9 (.seq (.reg [ZA 4 ZF0]) .ret) .skip)) (.seq (.seq (.reg [ZE 10 1 2,ZL 11 10,ZE 12 1 3,ZL 13 12,ZA 14 (.bin .neq 11 13)]) (.cond 14 (.seq (.reg [ZA 4 ZF0]) .ret) .skip)) (.seq (.seq (.reg [ZE 15 2 2,ZL 16 15,ZE 17 2 3,ZL 18 17,ZA 19 (.bin .neq 16 18)]) (.cond 19 (.seq (.reg [ZA 4 ZF0]) .ret) .skip)) (.seq (.seq (.reg [ZE 20 3 2,ZL 21 20,ZE 22 3 3,ZL 23 22,ZA 24 (.bin .neq 21 23)]) (.cond 24 (.seq (.reg [ZA 4 ZF0]) .ret) .skip)) (.seq (.seq (.reg [ZE 25 4 2,ZL 26 25,ZE 27 4 3,ZL 28 27,ZC 29 166 [26,28],ZA 30 (.un .not 29)]) (.cond 30 (.seq (.reg [ZA 4 ZF0]) .ret) .skip)) (.seq (.seq (.reg [ZE 31 5 2,ZL 32 31,ZE 33 5 3,ZL 34 33,ZC 35 167 [32,34],ZA 36 (.un .not 35)]) (.cond 36 (.seq (.reg [ZA 4 ZF0]) .ret) .skip)) (.seq (.seq (.reg [ZE 37 6 2,ZL 38 37,ZE 39 6 3,ZL 40 39,ZA 41 (.bin .neq 38 40)]) (.cond 41 (.seq (.reg [ZA 4 ZF0]) .ret) .skip)) (.seq (.seq (.reg [ZE 42 7 2,ZL 43 42,ZE 44 7 3,ZL 45 44,ZA 46 (.bin .neq 43 45)]) (.cond 46 (.seq (.reg [ZA 4 ZF0]) .ret) .skip)) (.seq (.reg [ZA 4 ZT0]) .ret))))))))))⟩
theorem p92:prepF Tryz.prog 92=some c92:=by kernel_rfl
end Go.Proofs.YtfplalbognalkaaGreat.Ab
/- The laws' helpers over expressions: measured, copied, alike. -/
namespace Go.Proofs.YtfplalbognalkaaGreat.Ab
open Go
def cO (r:List (Int×Int)):Int:=r.length
theorem cO_nonneg (r:List (Int×Int)):0<=cO r:=by unfold cO;omega
def cOS (r:List (List (Int×Int))):Int:=r.length+sumC cO r
theorem cOS_nonneg (r:List (List (Int×Int))):0<=cOS r:=by have:=sumC_nonneg cO_nonneg r;unfold cOS;omega
theorem ok150' (r:List (Int×Int)) (x:List (List E)) (hx:x=r.map orow) (left:Int) (h:0<=left/\left<=1048576):Plain Tryz.prog 150 [.e (.sl x),.int left] (.int (cut left (cO r))):=by
 have:=ok150 x left h
 rw [hx,List.length_map] at this
 rw [hx];exact this
theorem ok151 (l:List (List (Int×Int))) (es:List (List E)) (he:es=l.map orr) (left:Int) (h:0<=left/\left<=1048576):Plain Tryz.prog 151 [.e (.sl es),.int left] (.int (cut left (l.length+sumC cO l))):=okOf mixed p151 fun A P hA hP=>(by
 have hl1:es.length=l.length:=by rw [he];simp
 have hsn: ∀l:List (List (Int×Int)),0<=sumC cO l:=sumC_nonneg cO_nonneg
 obtain ⟨r,hr⟩: ∃r,r=cut left (l.length+sumC cO l):=⟨_,rfl⟩
 rw [<-hr]
 have hr2:r=cut (left-es.length) (sumC cO l):=by rw [hr,hl1,cut,cut];congr 1 <;>(try apply propext) <;>omega
 clear hr
 cbv
 repeat' first | exact W1 | refine WA ?_ ?_ | with_reducible intro hcc | refine WS ?_ | refine W6 ?_ | ((with_reducible first | refine hA.Len fun z hz hb=>?_ | refine hA.Off fun b hb=>?_);cbv) | ((with_reducible first | refine hA.Sapp ?_ fun sl hsl=>?_);rotate_left;cbv) | refine WL ?_ | fail
 all_goals try simp only [hA.sm,n_cast] at *
 all_goals try (first | omega | (have:=hb trivial trivial trivial;omega) | (have:r= -1:=(by simp only [decide_eq_true_eq] at *;have:=hsn l;rw [hr2];unfold cut;split <;>omega);rw [this];done))
 ·refine hA.loopI (fun n s=> ∃(i lf:Int),0<=i/\n+i=es.length/\0<=lf/\lf<=1048576/\r=cut lf (sumC cO (l.drop i.toNat))/\
    s=⟨[(5,.int i),(0,.e (.sl es)),(1,.int lf),(4,.int 0)], []⟩) es.length _
   (Weak.keep (env':= [(5,.int 0),(0,.e (.sl es)),(1,.int (left-z)),(4,.int 0)]) ⟨rfl,rfl,rfl,rfl,trivial⟩) ⟨0,left-z,by omega,by omega,by simp only [decide_eq_false_iff_not] at *;omega,by omega,(by rw [hr2,hz];rfl),rfl⟩ ?_
  rintro n s K ⟨i,lf,h0,h1,h2,h3,h4,rfl⟩ hK
  clear hr2
  by_cases hin:(0:Int)<=i/\i<es.length
  ·obtain ⟨r1,e1,q1⟩:=row_at he hin
   obtain ⟨x1,hx1⟩: ∃x,x=r1.map orow:=⟨_,rfl⟩
   have e1:es.getD i.toNat []= [E.sl x1]:=e1.trans (by rw [hx1])
   rw [sumC_drop q1] at h4
   obtain ⟨S,hS⟩: ∃S,S=sumC cO (l.drop (i.toNat+1)):=⟨_,rfl⟩
   have hS0:0<=S:=hS▸hsn _
   obtain ⟨c,hcost⟩: ∃c,c=cO r1:=⟨_,rfl⟩
   have hc0:0<=c:=hcost▸cO_nonneg _
   have hc:=ok150' r1 x1 hx1 lf ⟨h2,h3⟩
   rw [<-hS,<-hcost] at h4
   rw [<-hcost] at hc
   obtain ⟨u,hu⟩: ∃u,u=cut lf c:=⟨_,rfl⟩
   rw [<-hu] at hc
   have e8:(i+1).toNat=i.toNat+1:=by omega
   have g1:u<0->r= -1:=fun a=>by rw [h4];unfold cut at hu ⊢;split at hu <;>split <;>omega
   have g2:0<=u->r=cut u S/\u<=lf:=fun a=>by
    have hu2:u=lf-c:=by rw [hu] at a ⊢;unfold cut at a ⊢;split at a <;>split <;>omega
    refine ⟨?_,by omega⟩
    rw [h4,hu2]
    unfold cut
    rw [show lf-(c+S)=lf-c-S by omega]
   clear h4 hu hcost
   cbv
   repeat' first | exact W1 | refine WA ?_ ?_ | with_reducible intro hcc | refine WS ?_ | refine WK hA hP ?_ | (refine hA.RowE hin e1 ?_;cbv) | refine W6 ?_ | ((with_reducible first | refine hA.Len fun z hz hb=>?_ | refine hA.Off fun b hb=>?_);cbv) | ((with_reducible first | refine hA.Sapp ?_ fun sl hsl=>?_);rotate_left;cbv) | refine WL ?_ | fail
   all_goals try simp only [hA.sm,n_cast] at *
   all_goals first
    | omega
    | (clear hK g1 g2 he;simp at *;omega)
    | (rw [g1 (by clear hK g2;simp at *;omega)];done)
    | (have hu0:0<=u:=(by clear hK;simp at *;omega)
       exact hK _ (n-1) _ (by omega) (Weak.keep (env':= [(5,.int (i+1)),(0,.e (.sl es)),(1,.int u),(4,.int 0)]) ⟨rfl,rfl,rfl,rfl,trivial⟩) ⟨i+1,u,by omega,by omega,hu0,by have:=(g2 hu0).2;omega,by rw [e8,<-hS];exact (g2 hu0).1,rfl⟩)
    | (clear hK g1 g2 he;simp at *;omega)
  ·have hd:l.drop i.toNat= []:=by rw [List.drop_eq_nil_iff];omega
   rw [hd] at h4
   have h5:r=lf:=by rw [h4,sumC,cut,if_neg (by omega)];omega
   clear h4 hK
   cbv
   repeat' first | exact W1 | refine WA ?_ ?_ | with_reducible intro hcc | refine WS ?_ | (exfalso;simp only [hA.lt,hA.sub,decide_eq_true_eq,decide_eq_false_iff_not,n_cast] at *;omega) | refine W6 ?_ | ((with_reducible first | refine hA.Len fun z hz hb=>?_ | refine hA.Off fun b hb=>?_);cbv) | ((with_reducible first | refine hA.Sapp ?_ fun sl hsl=>?_);rotate_left;cbv) | refine WL ?_ | fail
   all_goals try simp only [hA.sm,n_cast] at *
   all_goals first
    | (rw [h5])
    | omega
    | (clear he;simp at *;omega))
theorem ok160 (l:List (List (Int×Int))) (es:List (List E)) (he:es=l.map orr) (hlen:es.length<=1048576) (hb2: ∀d∈l,d.length<=1048576):Plain Tryz.prog 160 [.e (.sl es)] (.e (.sl es)):=okOf mixed p160 fun A P hA hP=>(by
 have hl1:es.length=l.length:=by rw [he];simp
 have hes: ∀e∈es,e.length=1:=by
  rw [he]
  intro e h
  obtain ⟨p,_,rfl⟩:=List.mem_map.1 h
  rfl
 cbv
 repeat' first | exact W1 | refine WA ?_ ?_ | with_reducible intro hcc | refine WS ?_ | refine W6 ?_ | ((with_reducible first | refine hA.Len fun z hz hb=>?_ | refine hA.Off fun b hb=>?_ | refine hA.Rep fun ds m hds hm=>?_);cbv) | ((with_reducible first | refine hA.Sto ?_ fun ds hds=>?_ | refine hA.Sapp ?_ fun sl hsl=>?_);rotate_left;cbv) | refine WL ?_ | fail
 all_goals try simp only [hA.sm,n_cast] at *
 ·omega
 ·omega
 ·refine hA.loopI (fun n s=> ∃(i:Int) (xs:List (List E)),0<=i/\n+i=es.length/\xs.length=es.length/\(∀e∈xs,e.length=1)/\(∀j:Nat,j<i->xs[j]?=es[j]?)/\
    s=⟨[(4,.int i),(3,.bs 0 0 m 1),(2,.zs),(0,.e (.sl es))], [.box (xs.flatten.map .e)]⟩) es.length _
   (Weak.keep (env':= [(4,.int 0),(3,.bs 0 0 m 1),(2,.zs),(0,.e (.sl es))]) ⟨rfl,rfl,rfl,rfl,trivial⟩)
   ⟨0,List.replicate m [E.sl []],by omega,by omega,by simp;omega,by simp,fun j hj=>by omega,by rw [<-buf_zero,hm];rw [hds];rfl⟩ ?_
  rintro n s K ⟨i,xs,h0,h1,h2,h3,h4,rfl⟩ hK
  obtain ⟨ys,hys⟩: ∃ys,ys=xs.flatten.map D.e:=⟨_,rfl⟩
  have hyl:ys.length=xs.length * 1:=by rw [hys,List.length_map,flatten_len h3]
  rw [<-hys]
  by_cases hin:(0:Int)<=i/\i<es.length
  ·obtain ⟨r1,e1,q1⟩:=row_at he hin
   obtain ⟨x1,hx1⟩: ∃x,x=r1.map orow:=⟨_,rfl⟩
   have e1:es.getD i.toNat []= [E.sl x1]:=e1.trans (by rw [hx1])
   have hc:=ok159 r1 x1 hx1 (by rw [hx1,List.length_map];exact hb2 _ (List.mem_of_getElem? q1))
   have hrow0:es[i.toNat]?=some (es.getD i.toNat []):=by
    have:i.toNat<es.length:=by omega
    simp [List.getD,this]
   have hrl:(es.getD i.toNat []).length=1:=hes _ (List.mem_of_getElem? hrow0)
   cbv
   repeat' first | exact W1 | refine WA ?_ ?_ | with_reducible intro hcc | refine WS ?_ | refine WK hA hP ?_ | (refine hA.RowE hin e1 ?_;cbv) | refine W6 ?_ | ((with_reducible first | refine hA.Len fun z hz hb=>?_ | refine hA.Off fun b hb=>?_ | refine hA.Rep fun ds m hds hm=>?_);cbv) | ((with_reducible first | refine hA.Sto ?_ fun ds hds=>?_ | refine hA.Sapp ?_ fun sl hsl=>?_);rotate_left;cbv) | refine WL ?_ | fail
   all_goals try simp only [hA.sm,n_cast] at *
   all_goals first
    | (show _<(m:Int);omega)
    | omega
    | (clear hK h4 he;grind;done)
    | (have hb':b=i.toNat * 1:=by omega
       refine hK _ (n-1) _ (by omega) (Weak.keep (env':= [(4,.int (i+1)),(3,.bs 0 0 m 1),(2,.zs),(0,.e (.sl es))]) ⟨rfl,rfl,rfl,rfl,trivial⟩)
        ⟨i+1,xs.set i.toNat (es.getD i.toNat []),by omega,by omega,by simp [h2],fun e h=>?_,fun j hj=>?_,?_⟩
       ·rcases List.mem_or_eq_of_mem_set h with h | rfl
        ·exact h3 e h
        ·exact hrl
       ·by_cases hji:(j:Int)<i
        ·rw [List.getElem?_set_ne (show i.toNat≠j by omega)];exact h4 j hji
        ·have:j=i.toNat:=by omega
         subst this
         rw [List.getElem?_set_self (show i.toNat<xs.length by omega),hrow0]
       ·congr 2
        rw [hds,hys,hb']
        congr 1
        have q:=buf_set (k:=1) (by omega) h3 (i:=i.toNat) (show i.toNat<xs.length by omega) hrl
        rw [e1] at q ⊢
        exact q)
  ·have hxe:xs=es:=by
    refine List.ext_getElem? fun j=>?_
    by_cases hj:(j:Int)<i
    ·exact h4 j hj
    ·rw [List.getElem?_eq_none (by omega),List.getElem?_eq_none (by omega)]
   cbv
   repeat' first | exact W1 | refine WA ?_ ?_ | with_reducible intro hcc | refine WS ?_ | (exfalso;simp only [hA.lt,hA.sub,decide_eq_true_eq,decide_eq_false_iff_not,n_cast] at *;omega) | ((with_reducible refine hA.fin_bs (es:=es) ?_ ?_ hes)) | refine W6 ?_ | ((with_reducible first | refine hA.Len fun z hz hb=>?_ | refine hA.Off fun b hb=>?_ | refine hA.Rep fun ds m hds hm=>?_);cbv) | ((with_reducible first | refine hA.Sto ?_ fun ds hds=>?_ | refine hA.Sapp ?_ fun sl hsl=>?_);rotate_left;cbv) | refine WL ?_ | fail
   all_goals try simp only [hA.sm,n_cast] at *
   all_goals first
    | (rw [hys,hxe];rfl)
    | omega
    | (clear hK h4 he;grind;done))
theorem ok167 (l l':List (List (Int×Int))) (es fs:List (List E)) (he:es=l.map orr) (hf:fs=l'.map orr):Plain Tryz.prog 167 [.e (.sl es),.e (.sl fs)] (.bool (decide (l=l'))):=okOf mixed p167 fun A P hA hP=>(by
 obtain ⟨r,hr⟩: ∃r:Bool,r=decide (l=l'):=⟨_,rfl⟩
 rw [<-hr]
 have hl1:es.length=l.length:=by rw [he];simp
 have hl2:fs.length=l'.length:=by rw [hf];simp
 cbv
 repeat' first | exact W1 | refine WA ?_ ?_ | with_reducible intro hcc | refine WS ?_ | refine W6 ?_ | ((with_reducible first | refine hA.Len fun z hz hb=>?_ | refine hA.Off fun b hb=>?_);cbv) | ((with_reducible first | refine hA.Sapp ?_ fun sl hsl=>?_);rotate_left;cbv) | refine WL ?_ | fail
 all_goals try simp only [hA.sm,n_cast] at *
 ·have:l≠l':=fun e=>by subst e;clear hr;grind
  rw [hr];simp [this]
 ·have hzz:es.length=fs.length:=by clear hr;grind
  refine hA.loopI (fun n s=> ∃i:Int,0<=i/\n+i=l.length/\(∀j:Nat,j<i->l[j]?=l'[j]?)/\s=⟨[(5,.int i),(4,.bool false),(0,.e (.sl es)),(1,.e (.sl fs))], []⟩) l.length _ (Weak.keep (env':= [(5,.int 0),(4,.bool false),(0,.e (.sl es)),(1,.e (.sl fs))]) ⟨rfl,rfl,rfl,rfl,trivial⟩) ⟨0,by omega,by omega,fun j hj=>by omega,rfl⟩ ?_
  rintro n s K ⟨i,h0,h1,h2,rfl⟩ hK
  by_cases hin:(0:Int)<=i/\i<es.length
  ·have hin2:(0:Int)<=i/\i<fs.length:=by omega
   obtain ⟨r1,e1,q1⟩:=row_at he hin
   obtain ⟨r2,e2,q2⟩:=row_at hf hin2
   obtain ⟨x1,hx1⟩: ∃x,x=r1.map orow:=⟨_,rfl⟩
   have e1:es.getD i.toNat []= [E.sl x1]:=e1.trans (by rw [hx1])
   obtain ⟨x2,hx2⟩: ∃x,x=r2.map orow:=⟨_,rfl⟩
   have e2:fs.getD i.toNat []= [E.sl x2]:=e2.trans (by rw [hx2])
   have hc:=ok166 r1 r2 x1 x2 hx1 hx2
   obtain ⟨c,hcc⟩: ∃c:Bool,c=decide ((r1:List (Int×Int))=r2):=⟨_,rfl⟩
   rw [<-hcc] at hc
   have c1:c=false->r=false:=fun e=>by
    rw [hr,decide_eq_false_iff_not]
    intro e'
    subst e'
    rw [q1] at q2
    cases q2
    rw [e] at hcc
    simp at hcc
   have c2:c=true->l[i.toNat]?=l'[i.toNat]?:=fun e=>by
    rw [e] at hcc
    rw [q1,q2,of_decide_eq_true hcc.symm]
   clear hcc hr
   cbv
   repeat' first | exact W1 | refine WA ?_ ?_ | with_reducible intro hcc | refine WS ?_ | refine WK hA hP ?_ | (refine hA.RowE hin e1 ?_;cbv) | (refine hA.RowE hin2 e2 ?_;cbv) | refine W6 ?_ | ((with_reducible first | refine hA.Len fun z hz hb=>?_ | refine hA.Off fun b hb=>?_);cbv) | ((with_reducible first | refine hA.Sapp ?_ fun sl hsl=>?_);rotate_left;cbv) | refine WL ?_ | fail
   all_goals try simp only [hA.sm,n_cast] at *
   all_goals first
    | omega
    | (refine hK _ (n-1) _ (by omega) (Weak.gc (env':= [(5,.int (i+1)),(4,.bool false),(0,.e (.sl es)),(1,.e (.sl fs))]) ⟨rfl,rfl,rfl,rfl,trivial⟩ rfl) ⟨i+1,by omega,by omega,fun j hj=>?_,rfl⟩
       by_cases hji:(j:Int)<i
       ·exact h2 j hji
       ·have:j=i.toNat:=by omega
        rw [this]
        exact c2 (by clear hK h2;grind))
    | (clear hK h2 he hf e1 e2;grind;done)
  ·have hll:l=l':=by
    refine List.ext_getElem? fun j=>?_
    by_cases hj:(j:Int)<i
    ·exact h2 j hj
    ·rw [List.getElem?_eq_none (by omega),List.getElem?_eq_none (by omega)]
   have hr2:r=true:=by rw [hr,hll];simp
   clear hr
   cbv
   repeat' first | exact W1 | refine WA ?_ ?_ | with_reducible intro hcc | refine WS ?_ | (exfalso;simp only [hA.lt,hA.sub,decide_eq_true_eq,decide_eq_false_iff_not,n_cast] at *;omega) | refine W6 ?_ | ((with_reducible first | refine hA.Len fun z hz hb=>?_ | refine hA.Off fun b hb=>?_);cbv) | ((with_reducible first | refine hA.Sapp ?_ fun sl hsl=>?_);rotate_left;cbv) | refine WL ?_ | fail
   all_goals try simp only [hA.sm,n_cast] at *
   all_goals first
    | (rw [hr2])
    | omega
    | (clear hK h2 hll he hf;grind;done))
end Go.Proofs.YtfplalbognalkaaGreat.Ab
/- The laws' helpers over flat plans: measured, copied, alike. -/
namespace Go.Proofs.YtfplalbognalkaaGreat.Ab
open Go
theorem ok92 (K1 T1 M1 W1:Int) (Ex1:List (Int×Int)) (Exs1:List (List (Int×Int))) (L1 R1:Int) (x1 y1:List (List E)) (hx1:x1=Ex1.map orow) (hy1:y1=Exs1.map orr) (K2 T2 M2 W2:Int) (Ex2:List (Int×Int)) (Exs2:List (List (Int×Int))) (L2 R2:Int) (x2 y2:List (List E)) (hx2:x2=Ex2.map orow) (hy2:y2=Exs2.map orr):
  Plain Tryz.prog 92 [.agg [.int K1,.int T1,.int M1,.int W1,.e (.sl x1),.e (.sl y1),.int L1,.int R1],.agg [.int K2,.int T2,.int M2,.int W2,.e (.sl x2),.e (.sl y2),.int L2,.int R2]] (.bool (decide ((⟨K1,T1,M1,W1,Ex1,Exs1,L1,R1⟩:Fd)=⟨K2,T2,M2,W2,Ex2,Exs2,L2,R2⟩))):=okOf mixed p92 fun A P hA hP=>(by
 have h34:=ok166 Ex1 Ex2 x1 x2 hx1 hx2
 have h320:=ok167 Exs1 Exs2 y1 y2 hy1 hy2
 obtain ⟨c,hc⟩: ∃c,c=decide (Ex1=Ex2):=⟨_,rfl⟩
 rw [<-hc] at h34
 obtain ⟨d,hd⟩: ∃c,c=decide (Exs1=Exs2):=⟨_,rfl⟩
 rw [<-hd] at h320
 obtain ⟨r,hr⟩: ∃r,r=decide ((⟨K1,T1,M1,W1,Ex1,Exs1,L1,R1⟩:Fd)=⟨K2,T2,M2,W2,Ex2,Exs2,L2,R2⟩):=⟨_,rfl⟩
 rw [<-hr]
 have hr2:r=(decide (K1=K2)&&(decide (T1=T2)&&(decide (M1=M2)&&(decide (W1=W2)&&(c&&(d&&(decide (L1=L2)&&decide (R1=R2)))))))):=by rw [hr,hc,hd];simp
 clear hr hc hd
 cbv
 repeat' first | exact W1 | refine WA ?_ ?_ | with_reducible intro hcc | refine WS ?_ | refine WK hA hP ?_ | refine W6 ?_ | refine WL ?_ | fail
 all_goals try simp only [hA.sm,n_cast] at *
 all_goals first | rfl | (clear h34 h320;grind;done) | (clear h34 h320;simp at *;grind;done))
theorem ok40 (l l':List (Fd)) (es fs:List (List E)) (he:es=l.map fdr) (hf:fs=l'.map fdr):Plain Tryz.prog 40 [.e (.sl es),.e (.sl fs)] (.bool (decide (l=l'))):=okOf mixed p40 fun A P hA hP=>(by
 obtain ⟨r,hr⟩: ∃r:Bool,r=decide (l=l'):=⟨_,rfl⟩
 rw [<-hr]
 have hl1:es.length=l.length:=by rw [he];simp
 have hl2:fs.length=l'.length:=by rw [hf];simp
 cbv
 repeat' first | exact W1 | refine WA ?_ ?_ | with_reducible intro hcc | refine WS ?_ | refine W6 ?_ | ((with_reducible first | refine hA.Len fun z hz hb=>?_ | refine hA.Off fun b hb=>?_);cbv) | ((with_reducible first | refine hA.Sapp ?_ fun sl hsl=>?_);rotate_left;cbv) | refine WL ?_ | fail
 all_goals try simp only [hA.sm,n_cast] at *
 ·have:l≠l':=fun e=>by subst e;clear hr;grind
  rw [hr];simp [this]
 ·have hzz:es.length=fs.length:=by clear hr;grind
  refine hA.loopI (fun n s=> ∃i:Int,0<=i/\n+i=l.length/\(∀j:Nat,j<i->l[j]?=l'[j]?)/\s=⟨[(5,.int i),(4,.bool false),(0,.e (.sl es)),(1,.e (.sl fs))], []⟩) l.length _ (Weak.keep (env':= [(5,.int 0),(4,.bool false),(0,.e (.sl es)),(1,.e (.sl fs))]) ⟨rfl,rfl,rfl,rfl,trivial⟩) ⟨0,by omega,by omega,fun j hj=>by omega,rfl⟩ ?_
  rintro n s K ⟨i,h0,h1,h2,rfl⟩ hK
  by_cases hin:(0:Int)<=i/\i<es.length
  ·have hin2:(0:Int)<=i/\i<fs.length:=by omega
   obtain ⟨⟨K1,T1,M1,W1,Ex1,Exs1,L1,R1⟩,e1,q1⟩:=row_at he hin
   obtain ⟨⟨K2,T2,M2,W2,Ex2,Exs2,L2,R2⟩,e2,q2⟩:=row_at hf hin2
   obtain ⟨x1,hx1⟩: ∃x,x=Ex1.map orow:=⟨_,rfl⟩
   obtain ⟨y1,hy1⟩: ∃x,x=Exs1.map orr:=⟨_,rfl⟩
   have e1:es.getD i.toNat []= [E.int K1,E.int T1,E.int M1,E.int W1,E.sl x1,E.sl y1,E.int L1,E.int R1]:=e1.trans (by rw [hx1,hy1])
   obtain ⟨x2,hx2⟩: ∃x,x=Ex2.map orow:=⟨_,rfl⟩
   obtain ⟨y2,hy2⟩: ∃x,x=Exs2.map orr:=⟨_,rfl⟩
   have e2:fs.getD i.toNat []= [E.int K2,E.int T2,E.int M2,E.int W2,E.sl x2,E.sl y2,E.int L2,E.int R2]:=e2.trans (by rw [hx2,hy2])
   have hc:=ok92 K1 T1 M1 W1 Ex1 Exs1 L1 R1 x1 y1 hx1 hy1 K2 T2 M2 W2 Ex2 Exs2 L2 R2 x2 y2 hx2 hy2
   obtain ⟨c,hcc⟩: ∃c:Bool,c=decide ((⟨K1,T1,M1,W1,Ex1,Exs1,L1,R1⟩:Fd)=⟨K2,T2,M2,W2,Ex2,Exs2,L2,R2⟩):=⟨_,rfl⟩
   rw [<-hcc] at hc
   have c1:c=false->r=false:=fun e=>by
    rw [hr,decide_eq_false_iff_not]
    intro e'
    subst e'
    rw [q1] at q2
    cases q2
    rw [e] at hcc
    simp at hcc
   have c2:c=true->l[i.toNat]?=l'[i.toNat]?:=fun e=>by
    rw [e] at hcc
    rw [q1,q2,of_decide_eq_true hcc.symm]
   clear hcc hr
   cbv
   repeat' first | exact W1 | refine WA ?_ ?_ | with_reducible intro hcc | refine WS ?_ | refine WK hA hP ?_ | (refine hA.RowE hin e1 ?_;cbv) | (refine hA.RowE hin2 e2 ?_;cbv) | refine W6 ?_ | ((with_reducible first | refine hA.Len fun z hz hb=>?_ | refine hA.Off fun b hb=>?_);cbv) | ((with_reducible first | refine hA.Sapp ?_ fun sl hsl=>?_);rotate_left;cbv) | refine WL ?_ | fail
   all_goals try simp only [hA.sm,n_cast] at *
   all_goals first
    | omega
    | (refine hK _ (n-1) _ (by omega) (Weak.gc (env':= [(5,.int (i+1)),(4,.bool false),(0,.e (.sl es)),(1,.e (.sl fs))]) ⟨rfl,rfl,rfl,rfl,trivial⟩ rfl) ⟨i+1,by omega,by omega,fun j hj=>?_,rfl⟩
       by_cases hji:(j:Int)<i
       ·exact h2 j hji
       ·have:j=i.toNat:=by omega
        rw [this]
        exact c2 (by clear hK h2;grind))
    | (clear hK h2 he hf e1 e2;grind;done)
  ·have hll:l=l':=by
    refine List.ext_getElem? fun j=>?_
    by_cases hj:(j:Int)<i
    ·exact h2 j hj
    ·rw [List.getElem?_eq_none (by omega),List.getElem?_eq_none (by omega)]
   have hr2:r=true:=by rw [hr,hll];simp
   clear hr
   cbv
   repeat' first | exact W1 | refine WA ?_ ?_ | with_reducible intro hcc | refine WS ?_ | (exfalso;simp only [hA.lt,hA.sub,decide_eq_true_eq,decide_eq_false_iff_not,n_cast] at *;omega) | refine W6 ?_ | ((with_reducible first | refine hA.Len fun z hz hb=>?_ | refine hA.Off fun b hb=>?_);cbv) | ((with_reducible first | refine hA.Sapp ?_ fun sl hsl=>?_);rotate_left;cbv) | refine WL ?_ | fail
   all_goals try simp only [hA.sm,n_cast] at *
   all_goals first
    | (rw [hr2])
    | omega
    | (clear hK h2 hll he hf;grind;done))
theorem ok12 (ns ns':List Fd) (rt rt':Int) (x x':List (List E)) (hx:x=ns.map fdr) (hx':x'=ns'.map fdr):Plain Tryz.prog 12 [.agg [.e (.sl x),.int rt],.agg [.e (.sl x'),.int rt']] (.bool (decide (ns=ns')&&decide (rt=rt'))):=okOf mixed p12 fun A P hA hP=>(by
 have h240:=ok40 ns ns' x x' hx hx'
 obtain ⟨c,hc⟩: ∃c,c=decide (ns=ns'):=⟨_,rfl⟩
 rw [<-hc] at h240 ⊢
 obtain ⟨d,hd⟩: ∃d,d=(c&&decide (rt=rt')):=⟨_,rfl⟩
 rw [<-hd]
 cbv
 repeat' first | exact W1 | refine WA ?_ ?_ | with_reducible intro hcc | refine WS ?_ | refine WK hA hP ?_ | refine W6 ?_ | refine WL ?_ | fail
 all_goals try simp only [hA.sm,n_cast] at *
 all_goals first | rfl | (clear h240 hc;grind;done) | (clear h240 hc;simp at *;grind;done))
end Go.Proofs.YtfplalbognalkaaGreat.Ab
/- Copies that the laws make, with numbers: expressions, nodes of flat plans, tables. -/
namespace Go.Proofs.YtfplalbognalkaaGreat.Ab
open Go
def sumN {α:Type} (s:α->Nat):List α->Nat
 | []=>0
 | a::l=>s a+sumN s l
def numL {α β:Type} (f:Nat->α->β) (s:α->Nat):Nat->List α->List β
 | _, []=> []
 | q,a::l=>f q a::numL f s (q+s a) l
theorem numL_len {α β:Type} (f:Nat->α->β) (s:α->Nat): ∀(q:Nat) (l:List α),(numL f s q l).length=l.length
 | _, []=>rfl
 | q,a::l=>by simp [numL,numL_len f s _ l]
theorem numL_get {α β:Type} (f:Nat->α->β) (s:α->Nat): ∀(q:Nat) (l:List α) (i:Nat),(numL f s q l)[i]?=l[i]?.map fun a=>f (q+sumN s (l.take i)) a
 | _, [],i=>by simp [numL]
 | q,a::l,0=>by simp [numL,sumN]
 | q,a::l,i+1=>by
  rw [numL,List.getElem?_cons_succ,List.getElem?_cons_succ,numL_get f s _ l i,List.take_succ_cons]
  simp only [sumN,Nat.add_assoc]
theorem sumN_take {α:Type} {s:α->Nat} : ∀ {l:List α} {i:Nat} {a:α},l[i]?=some a->sumN s (l.take (i+1))=sumN s (l.take i)+s a
 | [],i,a,h=>by simp at h
 | b::l,0,a,h=>by
  simp at h
  subst h
  simp [sumN]
 | b::l,i+1,a,h=>by
  rw [List.take_succ_cons,List.take_succ_cons]
  simp only [sumN]
  rw [sumN_take (i:=i) (a:=a) (by simpa using h)]
  omega
theorem agg_side {az ds:List E} {q0 q1:Nat} :Side (fun _=> [.agg (az.map .e)]) (fun _=> [.ids q0]) (fun _=> .agg (ds.map .e)) (fun _=> [.ids q1]):=
 ⟨fun t=>by simp only [rens,D.ren,rens_e],by simp only [lts,D.lt,lts_e];rfl,fun t=>rfl,by intro o ho;rw [List.mem_singleton] at ho;subst ho;rfl,fun t=>by simp only [D.ren,rens_e],fun t=>rfl,Nat.le_refl _⟩
theorem n32 (q0:Nat) (l:List (Int×Int)) (es:List (List E)) (he:es=l.map orow) (hlen:es.length<=1048576):
  Proc Tryz.prog 159 (fun _=> [.e (.sl es)]) (fun _=> [.ids q0]) (fun _=> .e (.fs (q0+sumN (fun _=>0) l) ((numL (fun _ p=>p) (fun _=>0) q0 l).map orow))) (fun _=> [.ids (q0+sumN (fun _=>0) l+1)]):=procOf mixed p159 (NS.tok_side (es:= [.sl es])) fun A P hA hP=>(by
 have hl1:es.length=l.length:=by rw [he];simp
 obtain ⟨ts,hts⟩: ∃ts,ts=(numL (fun _ p=>p) (fun _=>0) q0 l).map orow:=⟨_,rfl⟩
 have htl:ts.length=es.length:=by rw [hts,hl1,List.length_map,numL_len]
 have htk: ∀e∈ts,e.length=2:=by
  rw [hts]
  intro e h
  obtain ⟨p,_,rfl⟩:=List.mem_map.1 h
  rfl
 obtain ⟨qe,hqe⟩: ∃q,q=q0+sumN (fun _=>0) l:=⟨_,rfl⟩
 rw [<-hts,<-hqe]
 cbv
 repeat' first | exact W1 | refine WA ?_ ?_ | with_reducible intro hcc | refine WS ?_ | refine W6 ?_ | ((with_reducible first | refine hA.Len fun z hz hb=>?_ | refine hA.Off fun b hb=>?_ | refine hA.Rep fun ds m hds hm=>?_);cbv) | ((with_reducible first | refine hA.Sto ?_ fun ds hds=>?_ | refine hA.Sapp ?_ fun sl hsl=>?_);rotate_left;cbv) | refine WL ?_ | fail
 all_goals try simp only [hA.sm,n_cast] at *
 ·omega
 ·omega
 ·refine hA.loopI (fun n s=> ∃(i:Int) (qi:Nat) (xs:List (List E)),0<=i/\n+i=es.length/\qi=q0+sumN (fun _=>0) (l.take i.toNat)/\xs.length=es.length/\(∀e∈xs,e.length=2)/\(∀j:Nat,j<i->xs[j]?=ts[j]?)/\
    s=⟨[(4,.int i),(3,.bs 1 0 m 2),(2,.zs),(0,.e (.sl es))], [.ids qi,.box (xs.flatten.map .e)]⟩) es.length _
   (Weak.keep (env':= [(4,.int 0),(3,.bs 1 0 m 2),(2,.zs),(0,.e (.sl es))]) ⟨rfl,rfl,rfl,rfl,trivial⟩)
   ⟨0,q0,List.replicate m [E.int 0,E.int 0],by omega,by omega,by simp [sumN],by simp;omega,by simp,fun j hj=>by omega,by rw [<-buf_zero,hm];rw [hds];rfl⟩ ?_
  rintro n s K ⟨i,qi,xs,h0,h1,hq,h2,h3,h4,rfl⟩ hK
  obtain ⟨ys,hys⟩: ∃ys,ys=xs.flatten.map D.e:=⟨_,rfl⟩
  have hyl:ys.length=xs.length * 2:=by rw [hys,List.length_map,flatten_len h3]
  rw [<-hys]
  by_cases hin:(0:Int)<=i/\i<es.length
  ·obtain ⟨⟨k1,v1⟩,e1,q1⟩:=row_at he hin
   have hmem:=List.mem_of_getElem? q1
   have htk1:=sumN_take (s:=(fun _=>0)) q1
   have e1:es.getD i.toNat []= [E.int k1,E.int v1]:=e1
   obtain ⟨qj,hqj⟩: ∃q,q=qi:=⟨_,rfl⟩
   have hrow0:ts[i.toNat]?=some [E.int k1,E.int v1]:=by
    rw [hts,List.getElem?_map,numL_get,q1]
    try rw [<-hq]
    simp only [Option.map_some]
    try rfl
   clear hts
   cbv
   repeat' first | exact W1 | refine WA ?_ ?_ | with_reducible intro hcc | refine WS ?_ | ((with_reducible first | refine callK_f hA hP (ok214 _ _) ?_ ?_ ?_);exact rfl;exact rfl;cbv) | (refine hA.RowE hin e1 ?_;cbv) | refine W6 ?_ | ((with_reducible first | refine hA.Len fun z hz hb=>?_ | refine hA.Off fun b hb=>?_ | refine hA.Rep fun ds m hds hm=>?_);cbv) | ((with_reducible first | refine hA.Sto ?_ fun ds hds=>?_ | refine hA.Sapp ?_ fun sl hsl=>?_);rotate_left;cbv) | refine WL ?_ | fail
   all_goals try simp only [hA.sm,n_cast] at *
   all_goals first
    | (show _<(m:Int);omega)
    | omega
    | (clear hK h4 he;grind;done)
    | (have hb':b=i.toNat * 2:=by omega
       refine hK _ (n-1) _ (by omega) (Weak.keep (env':= [(4,.int (i+1)),(3,.bs 1 0 m 2),(2,.zs),(0,.e (.sl es))]) ⟨rfl,rfl,rfl,rfl,trivial⟩)
        ⟨i+1,qi,xs.set i.toNat [E.int k1,E.int v1],by omega,by omega,by rw [show (i+1).toNat=i.toNat+1 by omega,htk1];omega,by simp [h2],fun e h=>?_,fun j hj=>?_,?_⟩
       ·rcases List.mem_or_eq_of_mem_set h with h | rfl
        ·exact h3 e h
        ·rfl
       ·by_cases hji:(j:Int)<i
        ·rw [List.getElem?_set_ne (show i.toNat≠j by omega)];exact h4 j hji
        ·have:j=i.toNat:=by omega
         subst this
         rw [List.getElem?_set_self (show i.toNat<xs.length by omega),hrow0]
       ·congr 3
        rw [hds,hys,hb']
        congr 1
        exact buf_set (k:=2) (by omega) h3 (i:=i.toNat) (show i.toNat<xs.length by omega) (r:= [E.int k1,E.int v1]) rfl)
  ·have hxe:xs=ts:=by
    refine List.ext_getElem? fun j=>?_
    by_cases hj:(j:Int)<i
    ·exact h4 j hj
    ·rw [List.getElem?_eq_none (by omega),List.getElem?_eq_none (by omega)]
   have hqq:qi=qe:=by rw [hq,hqe,List.take_of_length_le (by omega)]
   subst hqq
   cbv
   repeat' first | exact W1 | refine WA ?_ ?_ | with_reducible intro hcc | refine WS ?_ | (exfalso;simp only [hA.lt,hA.sub,decide_eq_true_eq,decide_eq_false_iff_not,n_cast] at *;omega) | ((with_reducible refine hA.finv _ _ _ _ _ (finv_bsFs (t:=0) (es:=ts) rfl ?_ ?_ htk))) | refine W6 ?_ | ((with_reducible first | refine hA.Len fun z hz hb=>?_ | refine hA.Off fun b hb=>?_ | refine hA.Rep fun ds m hds hm=>?_);cbv) | ((with_reducible first | refine hA.Sto ?_ fun ds hds=>?_ | refine hA.Sapp ?_ fun sl hsl=>?_);rotate_left;cbv) | refine WL ?_ | fail
   all_goals try simp only [hA.sm,n_cast] at *
   all_goals first
    | (rw [hys,hxe];rfl)
    | omega
    | (clear hK h4 he;grind;done))
theorem sum0 {α:Type} : ∀l:List α,sumN (fun _=>0) l=0
 | []=>rfl
 | _::l=>by simp only [sumN,sum0 l]
theorem num0 {α:Type} (q:Nat): ∀l:List α,numL (fun _ p=>p) (fun _=>0) q l=l
 | []=>rfl
 | a::l=>by rw [numL,Nat.add_zero,num0 q l]
theorem m32 (q0:Nat) (l:List (Int×Int)) (es:List (List E)) (he:es=l.map orow) (hlen:es.length<=1048576):Proc Tryz.prog 159 (fun _=> [.e (.sl es)]) (fun _=> [.ids q0]) (fun _=> .e (eX (q0,l))) (fun _=> [.ids (q0+1)]):=by
 have:=n32 q0 l es he hlen
 rw [sum0,num0,Nat.add_zero] at this
 exact this
def nX (q:Nat) (l:List (Int×Int)):Nx:=(q,l)
def one1 {α:Type} (_:α):Nat:=1
theorem sum1 {α:Type} : ∀l:List α,sumN one1 l=l.length
 | []=>rfl
 | _::l=>by simp only [sumN,sum1 l,one1,List.length_cons];omega
theorem n314 (q0:Nat) (l:List (List (Int×Int))) (es:List (List E)) (he:es=l.map orr) (hlen:es.length<=1048576) (hb2: ∀d∈l,d.length<=1048576):
  Proc Tryz.prog 160 (fun _=> [.e (.sl es)]) (fun _=> [.ids q0]) (fun _=> .e (.fs (q0+sumN one1 l) ((numL nX one1 q0 l).map xrow))) (fun _=> [.ids (q0+sumN one1 l+1)]):=procOf mixed p160 (NS.tok_side (es:= [.sl es])) fun A P hA hP=>(by
 have hl1:es.length=l.length:=by rw [he];simp
 obtain ⟨ts,hts⟩: ∃ts,ts=(numL nX one1 q0 l).map xrow:=⟨_,rfl⟩
 have htl:ts.length=es.length:=by rw [hts,hl1,List.length_map,numL_len]
 have htk: ∀e∈ts,e.length=1:=by
  rw [hts]
  intro e h
  obtain ⟨p,_,rfl⟩:=List.mem_map.1 h
  rfl
 obtain ⟨qe,hqe⟩: ∃q,q=q0+sumN one1 l:=⟨_,rfl⟩
 rw [<-hts,<-hqe]
 cbv
 repeat' first | exact W1 | refine WA ?_ ?_ | with_reducible intro hcc | refine WS ?_ | refine W6 ?_ | ((with_reducible first | refine hA.Len fun z hz hb=>?_ | refine hA.Off fun b hb=>?_ | refine hA.Rep fun ds m hds hm=>?_);cbv) | ((with_reducible first | refine hA.Sto ?_ fun ds hds=>?_ | refine hA.Sapp ?_ fun sl hsl=>?_);rotate_left;cbv) | refine WL ?_ | fail
 all_goals try simp only [hA.sm,n_cast] at *
 ·omega
 ·omega
 ·refine hA.loopI (fun n s=> ∃(i:Int) (qi:Nat) (xs:List (List E)),0<=i/\n+i=es.length/\qi=q0+sumN one1 (l.take i.toNat)/\xs.length=es.length/\(∀e∈xs,e.length=1)/\(∀j:Nat,j<i->xs[j]?=ts[j]?)/\
    s=⟨[(4,.int i),(3,.bs 1 0 m 1),(2,.zs),(0,.e (.sl es))], [.ids qi,.box (xs.flatten.map .e)]⟩) es.length _
   (Weak.keep (env':= [(4,.int 0),(3,.bs 1 0 m 1),(2,.zs),(0,.e (.sl es))]) ⟨rfl,rfl,rfl,rfl,trivial⟩)
   ⟨0,q0,List.replicate m [E.sl []],by omega,by omega,by simp [sumN],by simp;omega,by simp,fun j hj=>by omega,by rw [<-buf_zero,hm];rw [hds];rfl⟩ ?_
  rintro n s K ⟨i,qi,xs,h0,h1,hq,h2,h3,h4,rfl⟩ hK
  obtain ⟨ys,hys⟩: ∃ys,ys=xs.flatten.map D.e:=⟨_,rfl⟩
  have hyl:ys.length=xs.length * 1:=by rw [hys,List.length_map,flatten_len h3]
  rw [<-hys]
  by_cases hin:(0:Int)<=i/\i<es.length
  ·obtain ⟨r1,e1,q1⟩:=row_at he hin
   have hmem:=List.mem_of_getElem? q1
   have htk1:=sumN_take (s:=one1) q1
   obtain ⟨x1,hx1⟩: ∃x,x=r1.map orow:=⟨_,rfl⟩
   have e1:es.getD i.toNat []= [E.sl x1]:=e1.trans (by rw [hx1])
   obtain ⟨qj,hqj⟩: ∃q,q=qi+1:=⟨_,rfl⟩
   have hs1:one1 r1=1:=rfl
   obtain ⟨X1,hX1⟩: ∃X,X=eX (qi,r1):=⟨_,rfl⟩
   have hc:Proc Tryz.prog 159 (fun _=> [.e (.sl x1)]) (fun _=> [.ids qi]) (fun _=> .e X1) (fun _=> [.ids qj]):=by
    rw [hX1,hqj]
    exact m32 qi r1 x1 hx1 (by rw [hx1,List.length_map];exact hb2 r1 hmem)
   have hrow0:ts[i.toNat]?=some [X1]:=by
    rw [hts,List.getElem?_map,numL_get,q1]
    try rw [<-hq]
    simp only [Option.map_some,nX,xrow,hX1]
    try rfl
   clear hts
   cbv
   repeat' first | exact W1 | refine WA ?_ ?_ | with_reducible intro hcc | refine WS ?_ | ((with_reducible show A.call _ _ _ _ _ 159 _ _ _);have hc:=hc;refine callK_pr hA hP [0] (by rfl) (by exact ⟨rfl,trivial⟩) (Wks.refl _) ?_ (fun _ _=>hc) hc.side;cbv) | (refine hA.RowE hin e1 ?_;cbv) | refine W6 ?_ | ((with_reducible first | refine hA.Len fun z hz hb=>?_ | refine hA.Off fun b hb=>?_ | refine hA.Rep fun ds m hds hm=>?_);cbv) | ((with_reducible first | refine hA.Sto ?_ fun ds hds=>?_ | refine hA.Sapp ?_ fun sl hsl=>?_);rotate_left;cbv) | refine WL ?_ | fail
   all_goals try simp only [hA.sm,n_cast] at *
   all_goals first
    | (show _<(m:Int);omega)
    | omega
    | (clear hK h4 he;grind;done)
    | (have hb':b=i.toNat * 1:=by omega
       refine hK _ (n-1) _ (by omega) (Weak.keep (env':= [(4,.int (i+1)),(3,.bs 1 0 m 1),(2,.zs),(0,.e (.sl es))]) ⟨rfl,rfl,rfl,rfl,trivial⟩)
        ⟨i+1,qj,xs.set i.toNat [X1],by omega,by omega,by rw [show (i+1).toNat=i.toNat+1 by omega,htk1];omega,by simp [h2],fun e h=>?_,fun j hj=>?_,?_⟩
       ·rcases List.mem_or_eq_of_mem_set h with h | rfl
        ·exact h3 e h
        ·rfl
       ·by_cases hji:(j:Int)<i
        ·rw [List.getElem?_set_ne (show i.toNat≠j by omega)];exact h4 j hji
        ·have:j=i.toNat:=by omega
         subst this
         rw [List.getElem?_set_self (show i.toNat<xs.length by omega),hrow0]
       ·congr 3
        rw [hds,hys,hb']
        congr 1
        exact buf_set (k:=1) (by omega) h3 (i:=i.toNat) (show i.toNat<xs.length by omega) (r:= [X1]) rfl)
  ·have hxe:xs=ts:=by
    refine List.ext_getElem? fun j=>?_
    by_cases hj:(j:Int)<i
    ·exact h4 j hj
    ·rw [List.getElem?_eq_none (by omega),List.getElem?_eq_none (by omega)]
   have hqq:qi=qe:=by rw [hq,hqe,List.take_of_length_le (by omega)]
   subst hqq
   cbv
   repeat' first | exact W1 | refine WA ?_ ?_ | with_reducible intro hcc | refine WS ?_ | (exfalso;simp only [hA.lt,hA.sub,decide_eq_true_eq,decide_eq_false_iff_not,n_cast] at *;omega) | ((with_reducible refine hA.finv _ _ _ _ _ (finv_bsFs (t:=0) (es:=ts) rfl ?_ ?_ htk))) | refine W6 ?_ | ((with_reducible first | refine hA.Len fun z hz hb=>?_ | refine hA.Off fun b hb=>?_ | refine hA.Rep fun ds m hds hm=>?_);cbv) | ((with_reducible first | refine hA.Sto ?_ fun ds hds=>?_ | refine hA.Sapp ?_ fun sl hsl=>?_);rotate_left;cbv) | refine WL ?_ | fail
   all_goals try simp only [hA.sm,n_cast] at *
   all_goals first
    | (rw [hys,hxe];rfl)
    | omega
    | (clear hK h4 he;grind;done))
def nXs (q:Nat) (l:List (List (Int×Int))):Nxs:=(q+l.length,numL nX one1 q l)
theorem m314 (q0:Nat) (l:List (List (Int×Int))) (es:List (List E)) (he:es=l.map orr) (hlen:es.length<=1048576) (hb2: ∀d∈l,d.length<=1048576):Proc Tryz.prog 160 (fun _=> [.e (.sl es)]) (fun _=> [.ids q0]) (fun _=> .e (eXs (nXs q0 l))) (fun _=> [.ids (q0+l.length+1)]):=by
 have:=n314 q0 l es he hlen hb2
 rw [sum1] at this
 exact this
def nF (q:Nat) (d:Fd):Nf:=⟨d.K,d.T,d.M,d.W,nX q d.Ex,nXs (q+1) d.Exs,d.L,d.R⟩
def sF (d:Fd):Nat:=d.Exs.length+2
def nT (q:Nat) (t:Tb):Nt:=(t.1,t.2.1,q+t.2.2.length,NS.nums q t.2.2)
def sT (t:Tb):Nat:=t.2.2.length+1
theorem m89 (q0:Nat) (n1:List UInt8) (c1:Int) (rs:List (List (Bool×Int))) (x:List (List E)) (hx:x=rs.map rsr) (h1:rs.length<=1048576) (h2: ∀r∈rs,r.length<=1048576):
  Proc Tryz.prog 85 (fun _=> [.agg ([E.str n1,E.int c1,E.sl x].map .e)]) (fun _=> [.ids q0]) (fun _=> .agg ((ntr (nT q0 (n1,c1,rs))).map .e)) (fun _=> [.ids (q0+sT (n1,c1,rs))]):=procOf mixed p85 agg_side fun A P hA hP=>(by
 have h48:=NS.ok161 q0 rs x hx (by rw [hx,List.length_map];exact h1) h2
 have hxl:x.length=rs.length:=by rw [hx,List.length_map]
 obtain ⟨X1,hX1⟩: ∃X,X=eRs (q0+rs.length,NS.nums q0 rs):=⟨_,rfl⟩
 obtain ⟨q1,hq1⟩: ∃q,q=q0+sT (n1,c1,rs):=⟨_,rfl⟩
 have h48:Proc Tryz.prog 161 (fun _=> [.e (.sl x)]) (fun _=> [.ids q0]) (fun _=> .e X1) (fun _=> [.ids q1]):=by
  rw [hxl] at h48
  rw [hX1,hq1]
  exact h48
 have hr:(ntr (nT q0 (n1,c1,rs))).map D.e= [.str n1,.int c1,.e X1]:=by
  rw [hX1]
  rfl
 rw [hr,<-hq1]
 clear hr hX1 hq1
 cbv
 repeat' first | exact W1 | refine WA ?_ ?_ | with_reducible intro hcc | refine WS ?_ | ((with_reducible show A.call _ _ _ _ _ 161 _ _ _);have hc:=h48;refine callK_pr hA hP [0] (by rfl) (by exact ⟨rfl,trivial⟩) (Wks.refl _) ?_ (fun _ _=>hc) hc.side;cbv) | ((with_reducible refine hA.finv _ _ _ _ _ (finv_tok (t:=0) rfl ?_ ?_))) | refine W6 ?_ | ((with_reducible first | refine hA.Sto ?_ fun ds hds=>?_);rotate_left;cbv) | refine WL ?_ | fail
 all_goals try simp only [hA.sm,n_cast] at *
 all_goals first
  | rfl)
theorem n68 (q0:Nat) (l:List (Tb)) (es:List (List E)) (he:es=l.map tbr) (hlen:es.length<=1048576) (hb2: ∀t∈l,t.2.2.length<=1048576/\ ∀r∈t.2.2,r.length<=1048576):
  Proc Tryz.prog 36 (fun _=> [.e (.sl es)]) (fun _=> [.ids q0]) (fun _=> .e (.fs (q0+sumN sT l) ((numL nT sT q0 l).map ntr))) (fun _=> [.ids (q0+sumN sT l+1)]):=procOf mixed p36 (NS.tok_side (es:= [.sl es])) fun A P hA hP=>(by
 have hl1:es.length=l.length:=by rw [he];simp
 obtain ⟨ts,hts⟩: ∃ts,ts=(numL nT sT q0 l).map ntr:=⟨_,rfl⟩
 have htl:ts.length=es.length:=by rw [hts,hl1,List.length_map,numL_len]
 have htk: ∀e∈ts,e.length=3:=by
  rw [hts]
  intro e h
  obtain ⟨p,_,rfl⟩:=List.mem_map.1 h
  rfl
 obtain ⟨qe,hqe⟩: ∃q,q=q0+sumN sT l:=⟨_,rfl⟩
 rw [<-hts,<-hqe]
 cbv
 repeat' first | exact W1 | refine WA ?_ ?_ | with_reducible intro hcc | refine WS ?_ | refine W6 ?_ | ((with_reducible first | refine hA.Len fun z hz hb=>?_ | refine hA.Off fun b hb=>?_ | refine hA.Rep fun ds m hds hm=>?_);cbv) | ((with_reducible first | refine hA.Sto ?_ fun ds hds=>?_ | refine hA.Sapp ?_ fun sl hsl=>?_);rotate_left;cbv) | refine WL ?_ | fail
 all_goals try simp only [hA.sm,n_cast] at *
 ·omega
 ·omega
 ·refine hA.loopI (fun n s=> ∃(i:Int) (qi:Nat) (xs:List (List E)),0<=i/\n+i=es.length/\qi=q0+sumN sT (l.take i.toNat)/\xs.length=es.length/\(∀e∈xs,e.length=3)/\(∀j:Nat,j<i->xs[j]?=ts[j]?)/\
    s=⟨[(4,.int i),(3,.bs 1 0 m 3),(2,.zs),(0,.e (.sl es))], [.ids qi,.box (xs.flatten.map .e)]⟩) es.length _
   (Weak.keep (env':= [(4,.int 0),(3,.bs 1 0 m 3),(2,.zs),(0,.e (.sl es))]) ⟨rfl,rfl,rfl,rfl,trivial⟩)
   ⟨0,q0,List.replicate m [E.str [],E.int 0,E.sl []],by omega,by omega,by simp [sumN],by simp;omega,by simp,fun j hj=>by omega,by rw [<-buf_zero,hm];rw [hds];rfl⟩ ?_
  rintro n s K ⟨i,qi,xs,h0,h1,hq,h2,h3,h4,rfl⟩ hK
  obtain ⟨ys,hys⟩: ∃ys,ys=xs.flatten.map D.e:=⟨_,rfl⟩
  have hyl:ys.length=xs.length * 3:=by rw [hys,List.length_map,flatten_len h3]
  rw [<-hys]
  by_cases hin:(0:Int)<=i/\i<es.length
  ·obtain ⟨⟨n1,c1,rs⟩,e1,q1⟩:=row_at he hin
   have hmem:=List.mem_of_getElem? q1
   have htk1:=sumN_take (s:=sT) q1
   obtain ⟨x1,hx1⟩: ∃x,x=rs.map rsr:=⟨_,rfl⟩
   have e1:es.getD i.toNat []= [E.str n1,E.int c1,E.sl x1]:=e1.trans (by rw [hx1])
   obtain ⟨qj,hqj⟩: ∃q,q=qi+sT (n1,c1,rs):=⟨_,rfl⟩
   obtain ⟨X1,hX1⟩: ∃X,X=eRs (qi+rs.length,NS.nums qi rs):=⟨_,rfl⟩
   have hr:ntr (nT qi (n1,c1,rs))= [E.str n1,E.int c1,X1]:=by
    rw [hX1]
    rfl
   have hc:Proc Tryz.prog 85 (fun _=> [.agg ([E.str n1,E.int c1,E.sl x1].map .e)]) (fun _=> [.ids qi]) (fun _=> .agg (([E.str n1,E.int c1,X1]:List E).map .e)) (fun _=> [.ids qj]):=by
    rw [<-hr,hqj]
    exact m89 qi n1 c1 rs x1 hx1 (hb2 _ hmem).1 (hb2 _ hmem).2
   have hrow0:ts[i.toNat]?=some [E.str n1,E.int c1,X1]:=by
    rw [hts,List.getElem?_map,numL_get,q1]
    try rw [<-hq]
    simp only [Option.map_some,hr]
    try rfl
   clear hts
   cbv
   repeat' first | exact W1 | refine WA ?_ ?_ | with_reducible intro hcc | refine WS ?_ | ((with_reducible show A.call _ _ _ _ _ 85 _ _ _);have hc:=hc;refine callK_pr hA hP [0] (by rfl) (by exact ⟨rfl,trivial⟩) (Wks.refl _) ?_ (fun _ _=>hc) hc.side;cbv) | (refine hA.RowE hin e1 ?_;cbv) | refine W6 ?_ | ((with_reducible first | refine hA.Len fun z hz hb=>?_ | refine hA.Off fun b hb=>?_ | refine hA.Rep fun ds m hds hm=>?_);cbv) | ((with_reducible first | refine hA.Sto ?_ fun ds hds=>?_ | refine hA.Sapp ?_ fun sl hsl=>?_);rotate_left;cbv) | refine WL ?_ | fail
   all_goals try simp only [hA.sm,n_cast] at *
   all_goals first
    | (show _<(m:Int);omega)
    | omega
    | (clear hK h4 he;grind;done)
    | (have hb':b=i.toNat * 3:=by omega
       refine hK _ (n-1) _ (by omega) (Weak.keep (env':= [(4,.int (i+1)),(3,.bs 1 0 m 3),(2,.zs),(0,.e (.sl es))]) ⟨rfl,rfl,rfl,rfl,trivial⟩)
        ⟨i+1,qj,xs.set i.toNat [E.str n1,E.int c1,X1],by omega,by omega,by rw [show (i+1).toNat=i.toNat+1 by omega,htk1];omega,by simp [h2],fun e h=>?_,fun j hj=>?_,?_⟩
       ·rcases List.mem_or_eq_of_mem_set h with h | rfl
        ·exact h3 e h
        ·rfl
       ·by_cases hji:(j:Int)<i
        ·rw [List.getElem?_set_ne (show i.toNat≠j by omega)];exact h4 j hji
        ·have:j=i.toNat:=by omega
         subst this
         rw [List.getElem?_set_self (show i.toNat<xs.length by omega),hrow0]
       ·congr 3
        rw [hds,hys,hb']
        congr 1
        exact buf_set (k:=3) (by omega) h3 (i:=i.toNat) (show i.toNat<xs.length by omega) (r:= [E.str n1,E.int c1,X1]) rfl)
  ·have hxe:xs=ts:=by
    refine List.ext_getElem? fun j=>?_
    by_cases hj:(j:Int)<i
    ·exact h4 j hj
    ·rw [List.getElem?_eq_none (by omega),List.getElem?_eq_none (by omega)]
   have hqq:qi=qe:=by rw [hq,hqe,List.take_of_length_le (by omega)]
   subst hqq
   cbv
   repeat' first | exact W1 | refine WA ?_ ?_ | with_reducible intro hcc | refine WS ?_ | (exfalso;simp only [hA.lt,hA.sub,decide_eq_true_eq,decide_eq_false_iff_not,n_cast] at *;omega) | ((with_reducible refine hA.finv _ _ _ _ _ (finv_bsFs (t:=0) (es:=ts) rfl ?_ ?_ htk))) | refine W6 ?_ | ((with_reducible first | refine hA.Len fun z hz hb=>?_ | refine hA.Off fun b hb=>?_ | refine hA.Rep fun ds m hds hm=>?_);cbv) | ((with_reducible first | refine hA.Sto ?_ fun ds hds=>?_ | refine hA.Sapp ?_ fun sl hsl=>?_);rotate_left;cbv) | refine WL ?_ | fail
   all_goals try simp only [hA.sm,n_cast] at *
   all_goals first
    | (rw [hys,hxe];rfl)
    | omega
    | (clear hK h4 he;grind;done))
theorem m37 (q0:Nat) (ts:List Tb) (x:List (List E)) (hx:x=ts.map tbr) (h1:ts.length<=1048576) (h2: ∀t∈ts,t.2.2.length<=1048576/\ ∀r∈t.2.2,r.length<=1048576):
  Proc Tryz.prog 10 (fun _=> [.agg [.e (.sl x)]]) (fun _=> [.ids q0]) (fun _=> .agg [.e (eTs (q0+sumN sT ts) (numL nT sT q0 ts))]) (fun _=> [.ids (q0+sumN sT ts+1)]):=procOf mixed p10 (agg_side (az:= [.sl x]) (ds:= [_])) fun A P hA hP=>(by
 have h68:=n68 q0 ts x hx (by rw [hx,List.length_map];exact h1) h2
 obtain ⟨X1,hX1⟩: ∃X,X=eTs (q0+sumN sT ts) (numL nT sT q0 ts):=⟨_,rfl⟩
 obtain ⟨q1,hq1⟩: ∃q,q=q0+sumN sT ts+1:=⟨_,rfl⟩
 have h68:Proc Tryz.prog 36 (fun _=> [.e (.sl x)]) (fun _=> [.ids q0]) (fun _=> .e X1) (fun _=> [.ids q1]):=by
  rw [hX1,hq1]
  exact h68
 rw [<-hX1,<-hq1]
 clear hX1 hq1
 cbv
 repeat' first | exact W1 | refine WA ?_ ?_ | with_reducible intro hcc | refine WS ?_ | ((with_reducible show A.call _ _ _ _ _ 36 _ _ _);have hc:=h68;refine callK_pr hA hP [0] (by rfl) (by exact ⟨rfl,trivial⟩) (Wks.refl _) ?_ (fun _ _=>hc) hc.side;cbv) | ((with_reducible refine hA.finv _ _ _ _ _ (finv_tok (t:=0) rfl ?_ ?_))) | refine W6 ?_ | ((with_reducible first | refine hA.Sto ?_ fun ds hds=>?_);rotate_left;cbv) | refine WL ?_ | fail
 all_goals try simp only [hA.sm,n_cast] at *
 all_goals first
  | rfl)
end Go.Proofs.YtfplalbognalkaaGreat.Ab
/- The program's simplified plans: its pieces, with numbers. -/
namespace Go.Proofs.YtfplalbognalkaaGreat.Ab
open Go
def c165:F:=⟨8, [(.tmp 2)],(.seq (.reg [ZA 2 (.mov (.c .zs))]) (.seq (.seq (.reg [ZM 3 0,ZA 4 (.isnil false 3)]) (.cond 4 (.seq (.reg [ZA 2 (.mov (.c .zs))]) .ret) .skip)) (.seq (.reg [ZA 5 (.lit 2 [(.v (.int .i64 0)),(.v (.int .i64 0))] 0 []),ZM 6 0,ZA 7 (.app 2 5 6),ZM 2 7]) .ret)))⟩
theorem p165:prepF Tryz.prog 165=some c165:=by kernel_rfl
def c89:F:=⟨5, [(.tmp 2)],(.seq (.reg [ZA 2 (.mov (.c .zs))]) (.seq (.reg [ZM 3 0,ZC 4 165 [3],ZM 2 4]) .ret))⟩
theorem p89:prepF Tryz.prog 89=some c89:=by kernel_rfl
def c91:F:=⟨20, [(.tmp 2)],(.seq (.reg [ZA 2 (.mov (.c .zs))]) (.seq (.reg [ZA 6 (.lit 1 [(.sl [])] 0 []),ZM 3 6]) (.seq (.seq (.reg [ZM 7 0,ZA 8 (.lenl 7),ZA 9 (.mov (.c (.int 0)))]) (.block 0 (.loop (.seq (.reg [ZA 10 (.bin .lss 9 8)]) (.seq (.cond 10 .skip (.exit 0)) (.seq (.block 1 (.seq (.reg [ZA 11 (.iadr none 1 7 9),ZL 12 11,ZM 5 12]) (.reg [ZM 13 3,ZM 14 5,ZC 15 89 [14],ZA 16 (.lit 1 [(.sl [])] 1 [(0,15)]),ZA 17 (.app 1 13 16),ZM 3 17]))) (.reg [ZA 18 (.bin .add 9 (.c (.int 1))),ZM 9 18]))))))) (.seq (.reg [ZM 19 3,ZM 2 19]) .ret))))⟩
theorem p91:prepF Tryz.prog 91=some c91:=by kernel_rfl
def c90:F:=⟨6, [(.tmp 2)],(.seq (.reg [ZA 2 (.mov (.c .zs))]) (.seq (.reg [ZM 3 0,ZA 4 (.build [(.int 0),(.int 0)] [(0,(1,(.c (.int 3)))),(1,(1,3))]),ZA 5 (.lit 2 [(.v (.int .i64 0)),(.v (.int .i64 0))] 1 [(0,4)]),ZM 2 5]) .ret))⟩
theorem p90:prepF Tryz.prog 90=some c90:=by kernel_rfl
theorem allLen_orow (l:List (Int×Int)):allLen 2 (l.map orow):=allLen_iff.2 (fun e h=>by obtain ⟨p,_,rfl⟩:=List.mem_map.1 h;rfl)
theorem n299 (q0:Nat) (l:List (Int×Int)) (x:List (List E)) (hx:x=l.map orow) (hlen:x.length<=1048576):Proc Tryz.prog 165 (fun _=> [.e (.sl x)]) (fun _=> [.ids q0]) (fun _=> .e (eX (q0,l))) (fun _=> [.ids (q0+1)]):=by
 refine ⟨NS.tok_side (es:= [.sl x]),?_⟩
 obtain ⟨q1,hq1⟩: ∃q,q=q0+1:=⟨_,rfl⟩
 obtain ⟨X,hX⟩: ∃X,X=eX (q0,l):=⟨_,rfl⟩
 rw [<-hq1,<-hX]
 cases l with
 | nil=>
  have hxx:x= []:=hx
  have hXX:X= .fs q0 []:=hX
  subst hxx hXX
  refine CallOK.nil ?_ ?_
  ·refine callOf mixed p165 fun A P hA hP=>?_
   cbv
   repeat' first | exact W1 | refine WA ?_ ?_ | with_reducible intro hcc | refine WS ?_ | ((with_reducible refine hA.finv _ _ _ _ _ (finv_zsFs (t:=0) rfl ?_))) | refine W6 ?_ | ((with_reducible first | refine hA.App ?_ fun zs m hzs hm=>?_ | refine hA.App0 ?_ fun m hm=>?_ | refine hA.Appv ?_ fun bb m ds hbb hm hds=>?_ | refine hA.Vcut ?_ fun cs hcs=>?_ | refine hA.Appw ?_ fun bb m ds hbb hm hds=>?_);rotate_left;cbv) | refine WL ?_ | fail
   all_goals try simp only [hA.sm,n_cast] at *
   all_goals first
    | omega
  ·refine callOf mixed p165 fun A P hA hP=>?_
   subst hq1
   cbv
   repeat' first | exact W1 | refine WA ?_ ?_ | with_reducible intro hcc | refine WS ?_ | ((with_reducible refine hA.alt _ _ (Or.inr ?_));cbv) | ((with_reducible refine hA.app0v _ _ _ ⟨?_,fun bb m ds hbb hm hds=>?_⟩);rotate_left;cbv) | ((with_reducible refine hA.finv _ _ _ _ _ (finv_vecFs (t:=0) (es:= []) rfl rfl ?_ ?_ ?_))) | refine W6 ?_ | ((with_reducible first | refine hA.App ?_ fun zs m hzs hm=>?_ | refine hA.App0 ?_ fun m hm=>?_ | refine hA.Appv ?_ fun bb m ds hbb hm hds=>?_ | refine hA.Vcut ?_ fun cs hcs=>?_ | refine hA.Appw ?_ fun bb m ds hbb hm hds=>?_);rotate_left;cbv) | refine WL ?_ | fail
   all_goals try simp only [hA.sm,n_cast] at *
   all_goals first
    | omega
    | exact ⟨by simp,trivial⟩
    | exact trivial
    | (simp [hm];done)
    | (intro e h;cases h)
 | cons p r=>
  obtain ⟨e0,he0⟩: ∃e,e=orow p:=⟨_,rfl⟩
  obtain ⟨xr,hxr⟩: ∃e,e=r.map orow:=⟨_,rfl⟩
  have hxx:x=e0::xr:=by rw [hx,he0,hxr];rfl
  have hal:allLen 2 (e0::xr):=by rw [<-hxx,hx];exact allLen_orow _
  have hXX:X= .fs q0 (e0::xr):=by rw [hX,eX,<-hxx,hx]
  have hl:(e0::xr).length<=1048576:=by rw [<-hxx];exact hlen
  subst hxx hXX
  clear hx hX he0 hxr
  refine callOf mixed p165 fun A P hA hP=>?_
  subst hq1
  cbv
  repeat' first | exact W1 | refine WA ?_ ?_ | with_reducible intro hcc | refine WS ?_ | ((with_reducible refine hA.alt _ _ (Or.inr ?_));cbv) | ((with_reducible refine hA.app0v _ _ _ ⟨?_,fun bb m ds hbb hm hds=>?_⟩);rotate_left;cbv) | ((with_reducible refine hA.finv _ _ _ _ _ (finv_vecFs (t:=0) (es:=e0::xr) rfl rfl ?_ ?_ (allLen_iff.1 hal)))) | refine W6 ?_ | ((with_reducible first | refine hA.App ?_ fun zs m hzs hm=>?_ | refine hA.App0 ?_ fun m hm=>?_ | refine hA.Appv ?_ fun bb m ds hbb hm hds=>?_ | refine hA.Vcut ?_ fun cs hcs=>?_ | refine hA.Appw ?_ fun bb m ds hbb hm hds=>?_);rotate_left;cbv) | refine WL ?_ | fail
  all_goals try simp only [hA.sm,n_cast] at *
  all_goals first
   | omega
   | exact ⟨by omega,hal⟩
   | exact hal
   | exact hm.symm
   | (rw [hds,List.take_of_length_le];rw [List.length_map,flatten_len (allLen_iff.1 hal),hm];exact Nat.le_refl _)
   | exact allLen_iff.1 hal
theorem n259 (q0:Nat) (l:List (Int×Int)) (x:List (List E)) (hx:x=l.map orow) (hlen:x.length<=1048576):Proc Tryz.prog 89 (fun _=> [.e (.sl x)]) (fun _=> [.ids q0]) (fun _=> .e (eX (q0,l))) (fun _=> [.ids (q0+1)]):=procOf mixed p89 (NS.tok_side (es:= [.sl x])) fun A P hA hP=>(by
 have h299:=n299 q0 l x hx hlen
 obtain ⟨q1,hq1⟩: ∃q,q=q0+1:=⟨_,rfl⟩
 obtain ⟨X,hX⟩: ∃X,X=eX (q0,l):=⟨_,rfl⟩
 rw [<-hq1,<-hX] at h299
 rw [<-hq1,<-hX]
 cbv
 repeat' first | exact W1 | refine WA ?_ ?_ | with_reducible intro hcc | refine WS ?_ | ((with_reducible show A.call _ _ _ _ _ 165 _ _ _);have hc:=h299;refine callK_pr hA hP [0] (by rfl) (by exact ⟨rfl,trivial⟩) (Wks.refl _) ?_ (fun _ _=>hc) hc.side;cbv) | ((with_reducible refine hA.finv _ _ _ _ _ (finv_tok (t:=0) rfl ?_ ?_))) | refine W6 ?_ | refine WL ?_ | fail
 all_goals try simp only [hA.sm,n_cast] at *
 all_goals first
  | rfl)
theorem n262 (q0:Nat) (n:Int):Proc Tryz.prog 90 (fun _=> [.int n]) (fun _=> [.ids q0]) (fun _=> .e (eX (q0, [(3,n)]))) (fun _=> [.ids (q0+1)]):=procOf mixed p90 (NS.tok_side (es:= [E.int n])) fun A P hA hP=>(by
 obtain ⟨X,hX⟩: ∃X,X=E.fs q0 [[E.int 3,E.int n]]:=⟨_,rfl⟩
 have hX2:eX (q0, [(3,n)])=X:=hX.symm
 rw [hX2]
 subst hX
 cbv
 repeat' first | exact W1 | refine WA ?_ ?_ | with_reducible intro hcc | refine WS ?_ | ((with_reducible refine hA.alt _ _ (Or.inr ?_));cbv) | ((with_reducible refine hA.finv _ _ _ _ _ (finv_vecFs (t:=0) (es:= [[E.int 3,E.int n]]) rfl rfl ?_ ?_ ?_))) | refine W6 ?_ | refine WL ?_ | fail
 all_goals try simp only [hA.sm,n_cast] at *
 all_goals first
  | rfl
  | omega
  | (simp only [List.mem_singleton] at *;subst_vars;rfl))
theorem vec_tok {env:RF->List (Nat×D)} {q:Nat} {b:Bool} {k:Nat} {es:List E} (h1: ∀t,env t=renEnv t (env id)) (h2:ltEnv 2 (env id)=true):SideW env (fun _=> [.ids q,.vec b k (es.map .e)]):=
 ⟨h1,h2,fun t=>by simp only [List.map_cons,List.map_nil,O.ren,rens_e],by
  intro o ho
  simp only [List.mem_cons,List.not_mem_nil,or_false] at ho
  rcases ho with rfl | rfl <;>simp only [O.lt,lts_e]⟩
theorem n260 (q0:Nat) (l:List (List (Int×Int))) (es:List (List E)) (he:es=l.map orr) (hlen:es.length<=1048576) (hb2: ∀d∈l,d.length<=1048576):Proc Tryz.prog 91 (fun _=> [.e (.sl es)]) (fun _=> [.ids q0]) (fun _=> .e (eXs (nXs q0 l))) (fun _=> [.ids (q0+l.length+1)]):=procOf mixed p91 (NS.tok_side (es:= [.sl es])) fun A P hA hP=>(by
 have hl1:es.length=l.length:=by rw [he];simp
 obtain ⟨ts,hts⟩: ∃ts,ts=(numL nX one1 q0 l).map xrow:=⟨_,rfl⟩
 have htl:ts.length=es.length:=by rw [hts,hl1,List.length_map,numL_len]
 have htk: ∀e∈ts,e.length=1:=by
  rw [hts]
  intro e h
  obtain ⟨p,_,rfl⟩:=List.mem_map.1 h
  rfl
 obtain ⟨qe,hqe⟩: ∃q,q=q0+l.length:=⟨_,rfl⟩
 have hres:eXs (nXs q0 l)= .fs qe ts:=by rw [hqe,hts];rfl
 rw [hres,<-hqe]
 obtain ⟨ze,hze⟩: ∃z:Int,z=es.length:=⟨_,rfl⟩
 cbv
 repeat' first | exact W1 | refine WA ?_ ?_ | with_reducible intro hcc | refine WS ?_ | (refine hA.LenE hze fun hb=>?_;cbv) | refine W6 ?_ | ((with_reducible first | refine hA.Len fun z hz hb=>?_ | refine hA.Off fun b hb=>?_);cbv) | ((with_reducible first | refine hA.App ?_ fun zs m hzs hm=>?_ | refine hA.App0 ?_ fun m hm=>?_ | refine hA.Appv ?_ fun bb m ds hbb hm hds=>?_ | refine hA.Vcut ?_ fun cs hcs=>?_ | refine hA.Appw ?_ fun bb m ds hbb hm hds=>?_ | refine hA.Sapp ?_ fun sl hsl=>?_);rotate_left;cbv) | refine WL ?_ | fail
 all_goals try simp only [hA.sm,n_cast] at *
 all_goals try omega
 refine hA.loopI (fun n s=> ∃(i:Int) (qi:Nat) (xs:List (List E)) (ys:List E) (b:Bool) (m:Nat),0<=i/\n+i=es.length/\qi=q0+i.toNat/\xs=ts.take i.toNat/\ys=xs.flatten/\m=xs.length/\b=decide (0<m)/\
   s=⟨[(9,.int i),(8,.int ze),(7,.e (.sl es)),(3,.vec 1 m 1)], [.ids qi,.vec b 1 (ys.map .e)]⟩) es.length _
  ((Weak.zvec 3 1 rfl).trans (Weak.keep (env':= [(9,.int 0),(8,.int ze),(7,.e (.sl es)),(3,.vec 1 0 1)]) ⟨rfl,rfl,rfl,rfl,trivial⟩))
  ⟨0,q0, [], [],false,0,by omega,by omega,by omega,rfl,rfl,rfl,rfl,rfl⟩ ?_
 rintro n s K ⟨i,qi,xs,ys,b,m,h0,h1,hq,h2,hys,hm,hb,rfl⟩ hK
 have hxl:xs.length=i.toNat:=by rw [h2,List.length_take];omega
 have hxk: ∀e∈xs,e.length=1:=fun e h=>htk e (by rw [h2] at h;exact List.mem_of_mem_take h)
 have hyl:ys.length=m * 1:=by rw [hys,flatten_len hxk,hm]
 obtain ⟨dy,hdy⟩: ∃d,d=ys.map D.e:=⟨_,rfl⟩
 have hdl:dy.length=m * 1:=by rw [hdy,List.length_map,hyl]
 rw [<-hdy]
 by_cases hin:(0:Int)<=i/\i<es.length
 ·have e1:A.lt i ze=true:=by rw [hA.lt];exact decide_eq_true (by omega)
  obtain ⟨r1,e2,q1⟩:=row_at he hin
  obtain ⟨x1,hx1⟩: ∃x,x=r1.map orow:=⟨_,rfl⟩
  have e2:es.getD i.toNat []= [E.sl x1]:=e2.trans (by rw [hx1])
  obtain ⟨qj,hqj⟩: ∃q,q=qi+1:=⟨_,rfl⟩
  obtain ⟨X1,hX1⟩: ∃X,X=eX (qi,r1):=⟨_,rfl⟩
  have h259:Proc Tryz.prog 89 (fun _=> [.e (.sl x1)]) (fun _=> [.ids qi]) (fun _=> .e X1) (fun _=> [.ids qj]):=by
   rw [hX1,hqj]
   exact n259 qi r1 x1 hx1 (by rw [hx1,List.length_map];exact hb2 r1 (List.mem_of_getElem? q1))
  have hrow:ts.take (i+1).toNat=xs++ [[X1]]:=by
   rw [show (i+1).toNat=i.toNat+1 by omega,List.take_add_one,<-h2,hts,List.getElem?_map,numL_get,q1,sum1,List.length_take,Nat.min_eq_left (by omega),<-hq,hX1]
   rfl
  have go: ∀(b':Bool) (m':Nat) (ds':List D) (j:Nat) (env:List (Nat×D)) (hp:List O),b'=(b || decide (0<([[X1]]:List (List E)).length))->m'=m+([[X1]]:List (List E)).length->ds'=dy.take (m * 1)++([[X1]]:List (List E)).flatten.map .e->hpF hp 0= .ids qj->hpF hp j= .vec b' 1 ds'->(ndB [0,j]&&firstB 1 [0,j] 0)=true->
    subW [(9,.int (i+1)),(8,.int ze),(7,.e (.sl es)),(3,.vec j m' 1)] env->K ⟨env,hp⟩:=fun b' m' ds' j env hp g1 g2 g3 g4 g5 g6 g7=>by
   have hds:ds'=(ys++ [X1]).map .e:=by
    rw [g3,List.take_of_length_le (by omega),hdy]
    simp
   refine hK _ (n-1) _ (by omega) (Weak.ren (l0:= [.ids q0]) [0,j] (fun t=> [(9,.int (i+1)),(8,.int ze),(7,.e (.sl es)),(3,.vec (t 1) m' 1)]) (fun _=> [.ids qj,.vec b' 1 ((ys++ [X1]).map .e)]) g6 g7 ⟨g4,by rw [g5,hds],trivial⟩ (vec_tok (fun t=>rfl) rfl))
    ⟨i+1,qj,xs++ [[X1]],ys++ [X1],b',m',by omega,by omega,by omega,hrow.symm,by rw [hys] <;>simp,by rw [g2,hm] <;>simp,by rw [g1,g2] <;>simp,rfl⟩
  clear hK hrow hts he hX1 hys h2 hdy
  cbv
  repeat' first | exact W1 | (simp only [e1];cbv) | refine WA ?_ ?_ | with_reducible intro hcc | refine WS ?_ | ((with_reducible show A.call _ _ _ _ _ 89 _ _ _);have hc:=h259;refine callK_pr hA hP [0] (by rfl) (by exact ⟨rfl,trivial⟩) (Wks.refl _) ?_ (fun _ _=>hc) hc.side;cbv) | (refine hA.RowE hin e2 ?_;cbv) | refine W6 ?_ | ((with_reducible first | refine hA.Len fun z hz hb=>?_ | refine hA.Off fun b hb=>?_);cbv) | ((with_reducible first | refine hA.App ?_ fun zs m hzs hm=>?_ | refine hA.App0 ?_ fun m hm=>?_ | refine hA.Appv ?_ fun bb m ds hbb hm hds=>?_ | refine hA.Vcut ?_ fun cs hcs=>?_ | refine hA.Appw ?_ fun bb m ds hbb hm hds=>?_ | refine hA.Sapp ?_ fun sl hsl=>?_);rotate_left;cbv) | refine WL ?_ | fail
  all_goals try simp only [hA.sm,n_cast] at *
  all_goals first
   | omega
   | exact go _ _ _ _ _ _ (by assumption) (by assumption) (by assumption) rfl rfl rfl ⟨.inl rfl,.inl rfl,.inl rfl,.inl rfl,trivial⟩
   | exact ⟨rfl,trivial⟩
   | (simp only [List.length_cons,List.length_nil];omega)
 ·have e1:A.lt i ze=false:=by rw [hA.lt];exact decide_eq_false (by omega)
  have hxe:xs=ts:=by rw [h2];exact List.take_of_length_le (by omega)
  have hqq:qi=qe:=by omega
  subst hqq hxe
  clear hK h2
  cbv
  repeat' first | exact W1 | (simp only [e1];cbv) | refine WA ?_ ?_ | with_reducible intro hcc | refine WS ?_ | ((with_reducible refine hA.finv _ _ _ _ _ (finv_vecFs (t:=0) (es:=xs) rfl rfl ?_ ?_ htk))) | refine W6 ?_ | ((with_reducible first | refine hA.Len fun z hz hb=>?_ | refine hA.Off fun b hb=>?_);cbv) | ((with_reducible first | refine hA.App ?_ fun zs m hzs hm=>?_ | refine hA.App0 ?_ fun m hm=>?_ | refine hA.Appv ?_ fun bb m ds hbb hm hds=>?_ | refine hA.Vcut ?_ fun cs hcs=>?_ | refine hA.Appw ?_ fun bb m ds hbb hm hds=>?_ | refine hA.Sapp ?_ fun sl hsl=>?_);rotate_left;cbv) | refine WL ?_ | fail
  all_goals try simp only [hA.sm,n_cast] at *
  all_goals first
   | omega
   | exact hm.symm
   | (rw [hdy,hys,List.take_of_length_le];rw [List.length_map,flatten_len htk,hm];exact Nat.le_refl _))
end Go.Proofs.YtfplalbognalkaaGreat.Ab
