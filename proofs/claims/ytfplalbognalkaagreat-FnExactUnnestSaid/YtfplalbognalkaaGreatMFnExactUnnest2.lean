/- Calls of proved functions, and what a state may be taken for. -/
import Derived.Test.YtfplalbognalkaaGreatMFnExactUnnest1
import Derived.WalkKit
import Derived.ProofKit
import Derived.OpenShut
import Derived.Below
import Derived.Carry
import Derived.SizedLaws
import Derived.Test.YtfplalbognalkaaGreatRows
set_option linter.unusedSimpArgs false
set_option linter.unusedVariables false
set_option linter.unnecessarySimpa false
set_option linter.constructorNameAsVariable false
set_option maxRecDepth 100000
set_option maxHeartbeats 16000000
namespace Go.Proofs.YtfplalbognalkaaGreat.Ab
open Go
theorem frees_get: ∀ {ds:List D} {j:Nat} {d:D},frees ds=true->ds[j]?=some d->d.free=true
 | [],j,d,_,hd=>by simp at hd
 | x::r,0,d,h,hd=>by
  simp only [frees,Bool.and_eq_true] at h
  simp at hd;subst hd;exact h.1
 | x::r,j+1,d,h,hd=>by
  simp only [frees,Bool.and_eq_true] at h
  exact frees_get h.2 (by simpa using hd)
theorem Rv.free {w:World} {G:Gh} {h:Hp} {v:Value} {d:D} (r:Rv w G h v d) {G':Gh} {h':Hp} (hf:d.free=true) (hp:G'.pub=G.pub) (hs:G'.sg=G.sg):Rv w G' h' v d:=by
 have mv: ∀ {x d},RvE w G x d->RvE w G' x d:=fun h=>h.mono (fun b o p=>⟨by rw [hp];exact p,rfl⟩) fun j b e=>by rw [hs];exact e
 induction r with
 | e h=>exact .e (mv h)
 | agg hl h1 _ ih=>exact .agg hl h1 fun j c d hc hd=>ih j c d hc hd (frees_get (by simpa [D.free] using hf) hd)
 | own _ _ _=>simp [D.free] at hf
 | zs ha=>exact .zs ha
 | bs _ _ _ _=>simp [D.free] at hf
 | rp u hu hr=>exact .rp u (by rw [hp];exact hu) fun j d hj=>mv (hr j d hj)
 | ref _=>simp [D.free] at hf
 | refs _=>simp [D.free] at hf
 | tup hl _ ih=>exact .tup hl fun j c d hc hd=>ih j c d hc hd (frees_get (by simpa [D.free] using hf) hd)
 | when _ hu ih=>exact .when (fun e=>ih e (by simpa [D.free] using hf)) hu
 | fn hl _ hl' _ ih ih'=>
  simp only [D.free,Bool.and_eq_true] at hf
  exact .fn hl (fun j c d hc hd=>ih j c d hc hd (frees_get hf.1 hd)) hl' fun j c d hc hd=>ih' j c d hc hd (frees_get hf.2 hd)
 | vec _ _ _ _=>simp [D.free] at hf
 | vref _ _=>simp [D.free] at hf
 | mp _=>simp [D.free] at hf
 | rv _ _=>simp [D.free] at hf
 | e0=>exact .e0
 | any=>exact .any
theorem hpF_nil:hpF []=fun _=> .dead:=by funext i;simp [hpF]
theorem inv_nil {w:World} {G:Gh} {h:Hp} (hi:Inv w G h):Inv w G (hpF []):=by
 rw [hpF_nil]
 exact ⟨fun i h=>by simp [O.has] at h,fun i j h=>by simp [O.has] at h,hi.publt,fun i ds e=>by simp at e,fun i n k e=>by simp at e,fun i b k ds e=>by simp at e,fun i l e=>by simp at e,⟨fun j b e=>⟨(hi.x.sgs j b e).1,(fun i h=>by simp [O.has] at h),(hi.x.sgs j b e).2.2⟩,hi.x.sgi,fun i m e=>by simp at e,fun i j m m' e=>by simp at e,fun i R e=>by simp at e⟩⟩
theorem frame_pure {w w':World} {G G1:Gh} {h h1:Hp} (hi:Inv w G h) (hi1:Inv w' G1 h1) (he:Ext w G (hpF []) w' G1 h1):
  Inv w' ⟨G1.pub,G.blk,G1.sg,G.rv,G.rb⟩ h/\Ext w G h w' ⟨G1.pub,G.blk,G1.sg,G.rv,G.rb⟩ h:=by
 rw [hpF_nil] at he
 have row: ∀i,(h i).has=true->w'.heap[G.blk i]?=w.heap[G.blk i]?:=fun i hh=>he.others _ (hi.lt i hh) (fun j hj=>by simp [O.has] at hj) fun j R e=>by simp at e
 have hsg:G1.sg=G.sg:=he.sgn fun i m e=>by simp at e
 have oth: ∀b,b<w.heap.size->(∀i,(h i).has=true->G.blk i≠b)->w'.heap[b]?=w.heap[b]?:=fun b hb _=>he.others b hb (fun j hj=>by simp [O.has] at hj) fun j R e=>by simp at e
 have ext:Ext w G h w' ⟨G1.pub,G.blk,G1.sg,G.rv,G.rb⟩ h:= {
  os:=he.os
  tape:=he.tape
  output:=he.output
  size:=he.size
  pub:=he.pub
  box:=fun i ds e=>⟨⟨ds,e,rfl⟩,rfl⟩
  tok:=fun i n k e=>⟨n,e,Nat.le_refl _,fun _ hn=>⟨rfl,by simp only [World.shape?];rw [row i (by rw [e];simp [O.has,hn])]⟩⟩
  others:=fun b hb q _=>oth b hb q
  sgm:=he.sgm
  idm:=fun _ m e=>⟨m,e⟩
  rvm:=fun _ R e=>⟨⟨R,e⟩,rfl⟩
  rbnew:=fun i R e b hb=> .inl ⟨i,R,e,hb⟩
  idn:=fun j m e=>⟨j,m,e⟩
  sgn:=fun _=>hsg
  sgw:=fun j b e=> .inl (by rw [<-hsg];exact e)
  new:=fun i hi=> .inl ⟨i,hi,rfl⟩
  vec:=fun i b k ds e=> .inr ⟨ds,e,Nat.le_refl _,fun hb=>⟨rfl,by simp only [World.shape?];rw [row i (by rw [e];exact hb)]⟩⟩
  gone:=fun _ e=>e
  smap:=fun _ l e=>⟨⟨l,e⟩,rfl⟩
  pubnew:=fun b o p=>by
   rcases he.pubnew b o p with q | q | ⟨j,q,_⟩
   ·exact .inl q
   ·exact .inr (.inl q)
   ·simp [O.has] at q}
 refine ⟨⟨fun i hh=>Nat.lt_of_lt_of_le (hi.lt i hh) he.size,hi.inj,hi1.publt,fun i ds e=>?_,fun i n k e hn=>?_,fun i b k ds e=>?_,fun i l e=>?_,hi.x.step he.size hsg rfl rfl (fun _ _ e=>e) (fun _ _ e=>e) ext.new ext.pubnew oth⟩,ext⟩
 ·obtain ⟨a1,cs,T,a2,a3,a4⟩:=hi.box i ds e
  have hh:(h i).has=true:=by rw [e];rfl
  refine ⟨fun o p=>?_,cs,T,by rw [<-a2];exact row i hh,a3,fun j c d hc hd=>⟨(a4 j c d hc hd).1.ext ext,(a4 j c d hc hd).2⟩⟩
  rcases he.pubnew _ _ p with q | q | ⟨j,q,_⟩
  ·exact a1 o q
  ·have:=hi.lt i hh;exact absurd this (Nat.not_lt.2 q)
  ·simp [O.has] at q
 ·obtain ⟨⟨cs,T,a1⟩,a2⟩:=hi.front i n k e hn
  have hh:(h i).has=true:=by rw [e];simp [O.has,hn]
  refine ⟨⟨cs,T,by rw [<-a1];exact row i hh⟩,fun o ho p=>?_⟩
  rcases he.pubnew _ _ p with q | q | ⟨j,q,_⟩
  ·exact a2 o ho q
  ·have:=hi.lt i hh;exact absurd this (Nat.not_lt.2 q)
  ·simp [O.has] at q
 ·obtain ⟨a0,a⟩:=hi.vec i b k ds e
  refine ⟨a0,fun hb=>?_⟩
  obtain ⟨a1,cs,T,a2,a3,a4⟩:=a hb
  have hh:(h i).has=true:=by rw [e];exact hb
  refine ⟨fun o p=>?_,cs,T,by rw [<-a2];exact row i hh,a3,fun j c d hc hd=>⟨(a4 j c d hc hd).1.ext ext,(a4 j c d hc hd).2⟩⟩
  rcases he.pubnew _ _ p with q | q | ⟨j,q,_⟩
  ·exact a1 o q
  ·have:=hi.lt i hh;exact absurd this (Nat.not_lt.2 q)
  ·simp [O.has] at q
 ·obtain ⟨a1,es,ck,a2,a3,a4⟩:=hi.smap i l e
  have hh:(h i).has=true:=by rw [e];rfl
  refine ⟨fun o p=>?_,es,ck,by rw [<-a2];exact row i hh,a3,fun j e p a b=>⟨(a4 j e p a b).1,(a4 j e p a b).2.mono ext.pub ext.sgm⟩⟩
  rcases he.pubnew _ _ p with q | q | ⟨j,q,_⟩
  ·exact a1 o q
  ·have:=hi.lt i hh;exact absurd this (Nat.not_lt.2 q)
  ·simp [O.has] at q
theorem fin_pl {l:List O} {d' d:D} (h:d'.pl=d) (hf:d.free=true):FinW l d' d:=by
 intro w G v hi hr
 refine ⟨G,?_,inv_nil hi,fun w0 G0 e=>?_⟩
 ·have:=hr.pl
  rw [h] at this
  exact this.free hf rfl rfl
 ·rw [hpF_nil] at e ⊢
  exact ⟨e.os,e.tape,e.output,e.size,e.pub,fun i ds h=>by simp at h,fun i n k h=>by simp at h,e.others,fun i h=>by simp [O.has] at h,e.pubnew,fun i b k ds h=>by simp at h,fun i h=>by simp at h,fun i l h=>by simp at h,e.sgm,fun i m h=>by simp at h,fun i R h=>by simp at h,fun i R h=>by simp at h,fun i m h=>by simp at h,fun _=>e.sgn fun i m h=>by simp at h,e.sgw⟩
def Plain (P:Program) (fn:FuncId) (args:List D) (d:D):Prop:=CallOK P fn args [] fun d' l'=>FinW l' d' d
theorem Plain.callE {P:Program} {fn:FuncId} {args:List D} {d:D} (h:Plain P fn args d) (ha:frees args=true) (hd:d.free=true) (f:Nat):CallE P fn args [] f {d:=some d} :=by
 intro w G hh h' vs hi _ _ he hs hr
 have e':h'=hh:=by
  funext i
  rw [he i]
  simp only [List.length_nil,Nat.add_zero,List.find?_nil]
  rw [if_neg (by omega)]
 subst e'
 refine (h w G vs (inv_nil hi) hs fun j v x hv hx=>(hr j v x hv hx).free (frees_get ha hx) rfl rfl).mono fun e w' ⟨v,d',l',G1,q1,q2,q3,q4,q5⟩=>?_
 obtain ⟨G2,r1,r2,r3⟩:=q2 w' G1 v q4 q3
 obtain ⟨i1,x1⟩:=frame_pure hi r2 (r3 _ _ q5)
 exact ⟨v,d,⟨G2.pub,G.blk,G2.sg,G.rv,G.rb⟩,q1,rfl,r1.free hd rfl rfl,i1,x1⟩
theorem callK_fn {P:Program} {hp:Hp} {f:Nat} {gd g:Bool} {fn:FuncId} {ds args:List D} {d:D} {o:Prop} {K:Prop->Eff->Prop}
  (ha:frees args=true) (hd:d.free=true) (hk:K o {d:=some (if gd then .when g d else d)}) (hw:Wks ds args) (h:g=true->o->Plain P fn args d):CallK P hp f gd g fn ds o K:=
 ⟨args, [],{d:=some d},hw,(fun hg ho=>(h hg ho).callE ha hd f),fun _ _ h=>(List.not_mem_nil h).elim,fun _ _=>⟨rfl,rfl⟩,fun _ h=>(List.not_mem_nil h).elim,rfl,d,rfl,hk⟩
theorem Wks.refl: ∀ds:List D,Wks ds ds
 | []=>trivial
 | _::r=>⟨.inl rfl,Wks.refl r⟩
theorem Ar.Ok.fin_pl {A:Ar} (h:A.Ok) (l:List O) (d' d:D) (e:d'.pl=d):A.fin l d' d:=h.fin _ _ _ fun hf=>Ab.fin_pl e hf
theorem n_cast (n:Nat): @NatCast.natCast Int instNatCastInt n=(n:Int):=rfl
theorem Ar.Ok.natLit {A:Ar} (h:A.Ok) (k:Nat):A.nat (OfNat.ofNat k)=k:=by rw [h.nat];rfl
theorem Ar.Ok.natOf {A:Ar} (h:A.Ok) (k:Nat):A.nat (Int.ofNat k)=k:=by rw [h.nat];rfl
theorem Ar.Ok.natCast {A:Ar} (h:A.Ok) (k:Nat):A.nat (k:Int)=k:=by rw [h.nat];rfl
theorem okOf {Q:Program} (hm:Q.follows .mixedOrders=true) {fn:FuncId} {f:F} {args:List D} {d:D} (hf:prepF Q fn=some f)
  (h: ∀(A:Ar) (P:Program),A.Ok->P=Q->goF A P f args [] fun d' l=>A.fin l d' d) (hd:d.free=true:=by rfl):Plain Q fn args d:=by
 have:=callOK hm hf (h Ar.std Q Ar.std_ok rfl)
 intro w G vs a b c
 exact (this w G vs a b c).mono fun e w' ⟨v,d',l',G',q1,q2,q3⟩=>⟨v,d',l',G',q1,q2 hd,q3⟩
theorem callK_eq {A:Ar} (hA:A.Ok) {P Q:Program} (e:P=Q) {hp:Hp} {f:Nat} {gd g:Bool} {fn:FuncId} {ds args:List D} {d:D} {o:Prop} {K:Prop->Eff->Prop}
  (ha:frees args=true) (hd:d.free=true) (hk:K o {d:=some (if gd then .when g d else d)}) (hw:Wks ds args) (h:g=true->o->Plain Q fn args d):A.call P hp f gd g fn ds o K:=
 hA.call _ _ _ _ _ _ _ _ _ (e▸callK_fn ha hd hk hw h)
theorem callK_f {A:Ar} (hA:A.Ok) {P Q:Program} (e:P=Q) {hp:Hp} {f:Nat} {gd g:Bool} {fn:FuncId} {args:List D} {d:D} {o:Prop} {K:Prop->Eff->Prop}
  (h:Plain Q fn args d) (ha:frees args=true) (hd:d.free=true) (hk:K o {d:=some (if gd then .when g d else d)}):A.call P hp f gd g fn args o K:=
 callK_eq hA e ha hd hk (Wks.refl _) fun _ _=>h
theorem Ar.Ok.lits {A:Ar} (h:A.Ok):(∀k:Nat,A.nat (OfNat.ofNat k)=k)/\(∀k:Nat,A.nat (Int.ofNat k)=k)/\(∀k:Nat,A.nat (k:Int)=k):=⟨h.natLit,h.natOf,h.natCast⟩
theorem Ar.Ok.ar {A:Ar} (h:A.Ok):(∀a b,A.add a b=a+b)/\(∀a b,A.sub a b=a-b)/\(∀a b,A.mul a b=a * b)/\(∀a,A.neg a= -a)/\(∀a b,A.div a b=a / b)/\(∀a b,A.mod a b=a % b)/\(∀a b,A.mn a b=min a b)/\(∀a b,A.mx a b=max a b)/\
  (∀a b,A.eq a b=decide (a=b))/\(∀a b,A.lt a b=decide (a<b))/\(∀a b,A.le a b=decide (a<=b))/\(∀a,A.nat a=a.toNat)/\(∀k a,A.R k a=inR k a)/\(∀a b,A.lep a b=(a<=b))/\(∀a b,A.ltp a b=(a<b))/\(∀a b,A.seq a b=decide (a=b)):=
 ⟨h.add,h.sub,h.mul,h.neg,h.div,h.mod,h.mn,h.mx,h.eq,h.lt,h.le,h.nat,h.R,h.lep,h.ltp,h.seq⟩
theorem W1 {p:Prop} (h:p:=by first | with_reducible rfl | ((with_reducible intro hcc);cases hcc;done) | ((with_reducible show okWr _ _=_);rfl) | ((with_reducible refine hA.fin_pl _ _ _ ?_);cbv;done) | fail):p:=h
theorem WA {p a b:Prop} (x:a) (y:b) (i:a->b->p:=by intro x y;with_reducible exact And.intro x y):p:=i x y
theorem WS {p q:Prop} (h:q) (i:q->p:=by intro k;(with_reducible first | show goC _ _ _ _ _ _ _ _ | show goOps _ _ _ _ _ | show goD _ _ _ _ _ _);cbv;exact k):p:=i h
theorem WL {p q:Prop} (h:q) (i:q->p:=by intro k;simp only [hA.lits];cbv;exact k):p:=i h
theorem W6 {p q:Prop} (h:q) (i:q->p:=by intro k;(with_reducible first | refine hA.fin_pl _ _ _ ?_ | refine hA.alt _ _ (Or.inl ?_) | refine hA.gb0 true _ ?_ | refine hA.gb0 false _ ?_);cbv;exact k):p:=i h
structure Bx (q:Prop):Prop where
 o:q
theorem WK {A:Ar} (hA:A.Ok) {P Q:Program} (e:P=Q) {p q:Prop} (h:q) (i:Bx q->p:=by intro k;(with_reducible refine callK_f hA hP (by with_reducible_and_instances assumption) ?_ ?_ ?_);exact rfl;exact rfl;cbv;exact k.o):p:=i ⟨h⟩
theorem Ar.Ok.Len {A:Ar} (hA:A.Ok) {es dr g o k} (h: ∀z:Int,z=es.length->(dr=false->g=true->o->z<=140737488355328)->k z):A.len es dr g o k:=hA.len _ _ _ _ _ h
theorem Ar.Ok.Slen {A:Ar} (hA:A.Ok) {es dr g o k} (h: ∀z:Int,z=es.length->(dr=false->g=true->o->z<=140737488355328)->k z):A.slen es dr g o k:=hA.slen _ _ _ _ _ h
theorem Ar.Ok.Off {A:Ar} (hA:A.Ok) {a n k K} (h: ∀c,c=a+n.toNat * k->K c):A.off a n k K:=hA.off _ _ _ _ h
theorem Ar.Ok.Plus {A:Ar} (hA:A.Ok) {a b k} (h: ∀c,c=a+b->k c):A.plus a b k:=hA.plus _ _ _ h
theorem Ar.Ok.Rep {A:Ar} (hA:A.Ok) {zs n K} (h: ∀ds m,ds=(List.replicate n.toNat zs).flatten->m=n.toNat->K ds m):A.rep zs n K:=hA.rep _ _ _ h
theorem Ar.Ok.App {A:Ar} (hA:A.Ok) {es ys k ob K} (a:es.length+ys.length<=2147483648/\allLen k ys/\ob= .front es.length k) (h: ∀zs m,zs=es++ys->m=zs.length->K True zs m):A.app es ys k ob K:=hA.app _ _ _ _ _ ⟨a,h⟩
theorem Ar.Ok.App0 {A:Ar} (hA:A.Ok) {ys k K} (a:ys.length<=2147483648/\allLen k ys) (h: ∀m,m=ys.length->K True m):A.app0 ys k K:=hA.app0 _ _ _ ⟨a,h⟩
theorem Ar.Ok.Sto {A:Ar} (hA:A.Ok) {ds off n cs k} (a:off+n<=ds.length) (b: ∀ds',ds'=ds.take off++cs++ds.drop (off+n)->k True ds'):A.st ds off n cs k:=hA.st _ _ _ _ _ ⟨a,b⟩
theorem Ar.Ok.Appv {A:Ar} (hA:A.Ok) {b ds n ys k K} (a:n+ys.length<=2147483648/\allLen k ys) (h: ∀b' m ds',b'=(b || decide (0<ys.length))->m=n+ys.length->ds'=ds.take (n * k)++ys.flatten.map .e->K True b' m ds'):A.appv b ds n ys k K:=hA.appv _ _ _ _ _ _ ⟨a,h⟩
theorem Ar.Ok.Vcut {A:Ar} (hA:A.Ok) {ds n k K} (a: ∃xs:List E,ds.take (n * k)=xs.map .e) (b: ∀cs,cs=ds.take (n * k)->K True cs):A.vcut ds n k K:=hA.vcut _ _ _ _ ⟨a,b⟩
theorem Ar.Ok.Appw {A:Ar} (hA:A.Ok) {b ds n cs m k K} (a:n+m<=2147483648) (h: ∀b' m' ds',b'=(b || decide (0<m))->m'=n+m->ds'=ds.take (n * k)++cs->K True b' m' ds'):A.appw b ds n cs m k K:=hA.appw _ _ _ _ _ _ _ ⟨a,h⟩
theorem Ar.Ok.Six {A:Ar} (hA:A.Ok) {s n K} (h: ∀(z:Int) c,z=s.length->c=(s.getD n.toNat 0).toNat->c<256->K (A.lep 0 n/\A.ltp n z) c):A.six s n K:=hA.six _ _ _ h
theorem Ar.Ok.Sapp {A:Ar} (hA:A.Ok) {a b K} (c:a.length+b.length<=140737488355328) (h: ∀l,l=a++b->K True l):A.sapp a b K:=hA.sapp _ _ _ ⟨c,h⟩
theorem Ar.Ok.LenE {A:Ar} (hA:A.Ok) {es dr g o k} {z:Int} (e:z=es.length) (h:(dr=false->g=true->o->z<=140737488355328)->k z):A.len es dr g o k:=hA.len _ _ _ _ _ fun y hy hb=>by
 have e6:=e.trans hy.symm
 subst e6
 exact h hb
theorem Ar.Ok.RowE {A:Ar} (hA:A.Ok) {es:List (List E)} {n:Int} {r:List E} {k} (h:0<=n/\n<es.length) (e:es.getD n.toNat []=r) (hk:k True r):A.row es n k:=hA.row _ _ _ ⟨h,fun row hrow=>by
 rw [e] at hrow
 subst hrow
 exact hk⟩
theorem Ar.Ok.sm {A:Ar} (h:A.Ok):((∀a b,A.add a b=a+b)/\(∀a b,A.sub a b=a-b)/\(∀a b,A.mul a b=a * b)/\(∀a,A.neg a= -a)/\(∀a b,A.div a b=a / b)/\(∀a b,A.mod a b=a % b)/\(∀a b,A.mn a b=min a b)/\(∀a b,A.mx a b=max a b)/\
  (∀a b,A.eq a b=decide (a=b))/\(∀a b,A.lt a b=decide (a<b))/\(∀a b,A.le a b=decide (a<=b))/\(∀a,A.nat a=a.toNat)/\(∀k a,A.R k a=inR k a)/\(∀a b,A.lep a b=(a<=b))/\(∀a b,A.ltp a b=(a<b))/\(∀a b,A.seq a b=decide (a=b)))/\
  (∀r,inR .i64 r=(-9223372036854775808<=r/\r<=9223372036854775807))/\(∀r,inR .u8 r=(0<=r/\r<=255))/\(∀r,inR .i32 r=(-2147483648<=r/\r<=2147483647))/\(∀r,inR .u64 r=(IntKind.min .u64<=r/\r<=IntKind.max .u64))/\(∀n:Nat,Int.ofNat n=(n:Int))/\
  (∀(α:Type) (x a:α),(some x).getD a=x)/\ ∀(α:Type) (a:α),(none:Option α).getD a=a:=
 ⟨h.ar,fun _=>rfl,fun _=>rfl,fun _=>rfl,fun _=>rfl,fun _=>rfl,fun _ _ _=>rfl,fun _ _=>rfl⟩
end Go.Proofs.YtfplalbognalkaaGreat.Ab
/- From a law's arguments to the abstract view, and back to what the statement asks. -/
namespace Go.Proofs.YtfplalbognalkaaGreat.Ab
open Go Go.ChangeShapes Go.WideShapes Go.ChangeAt Go.RowKit
def pubAll (w:World):Gh:=⟨fun b _=>b<w.heap.size,fun _=>0,fun _=>none,fun _=> .bool true,fun _=> []⟩
theorem inv_all (w:World):Inv w (pubAll w) (hpF []):=by
 rw [hpF_nil]
 exact ⟨fun i h=>by simp [O.has] at h,fun i j h=>by simp [O.has] at h,fun b o h=>h,fun i ds e=>by simp at e,fun i n k e=>by simp at e,fun i b k ds e=>by simp at e,fun i l e=>by simp at e,⟨fun j b e=>(by cases e),fun i j b c e=>(by cases e),fun i m e=>(by simp at e),fun i j m m' e=>(by simp at e),fun i R e=>(by simp at e)⟩⟩
theorem Ext.below {w w':World} {G G':Gh} {h':Hp} (e:Ext w G (hpF []) w' G' h'):Below w.heap.size w w':=
 ⟨e.os,e.tape,e.output,e.size,fun k hk=>e.others k hk (fun i hi=>by rw [hpF_nil] at hi;simp [O.has] at hi) fun i R q=>by rw [hpF_nil] at q;cases q⟩
theorem law_walk {P:Program} {fn:FuncId} {args:List D} (h:Plain P fn args (.bool true)) {w:World} {vs:Array Value} (hs:vs.size=args.length)
  (hr: ∀(j:Nat) v d,vs[j]?=some v->args[j]?=some d->Rv w (pubAll w) (hpF []) v d):
  Calls P fn vs w fun e w'=>e= .returned (.bool true)/\Below w.heap.size w w':=by
 refine (h w (pubAll w) vs (inv_all w) hs hr).mono fun e w' ⟨v,d,l',G',he,hd,hv,hi,hx⟩=>?_
 obtain ⟨G2,r1,_,r3⟩:=hd w' G' v hi hv
 obtain ⟨rfl,_⟩:=rv_v r1
 exact ⟨he,(r3 _ _ hx).below⟩
section
variable {H:Type} {enc:TypeId×Value->H} {P:Program}
theorem below_trodAll (hl:laidOutB P=true) {W W':World} (hb:Below W.heap.size W W'): ∀ {ts:List TypeId} {vs:List Value} {ds:List (DataW H)} {ps:List MemPlace},(∀t∈ts,P.readableRec t=true/\t<P.types.size)->
  DataW.TrodAll enc P W 0 (fun _=>true) true ts vs ds ps->(∀x∈ps,x.block<W.heap.size)->DataW.TrodAll enc P W' 0 (fun b=>decide (b<W.heap.size)) true ts vs ds ps
 | [],vs,ds,ps,_,h,_=>by
  obtain ⟨rfl,rfl,rfl⟩:=trodAll_nil h
  exact trodAll_mk0
 | t::ts,vs,ds,ps,ht,h,hlt=>by
  obtain ⟨v,vs',d,ds',p,q,rfl,rfl,rfl,h1,h2⟩:=trodAll_cons h
  refine ⟨p,q,hb.trod hl (ht t (by simp)).1 (ht t (by simp)).2 h1 fun x hx=>hlt x (by simp [hx]),?_,rfl⟩
  exact below_trodAll hl hb (fun t' h'=>ht t' (by simp [h'])) h2 fun x hx=>hlt x (by simp [hx])
theorem law_lifted {C:Checked} {os:Os} {f:FuncId} {fn:Func} {s:ChangeSpec} {conds:List PathCond} {tb:TypeId}
  (own:ownKnob C.prog.godebug=none) (started:os.Started) (noInit:C.prog.inits.idxOf? f=none) (hfn:C.prog.funcs[f]?=some fn)
  (witness: ∃(w:World) (tape:Tape) (i:Input),w.os=os/\(w.forCall tape i).Shaped C.prog/\i.vars= []/\Input.okWide C.prog (w.forCall tape i) .any w.heap.size f i/\
   s.pre6 enc C.prog fn conds false (w.forCall tape i).memory i.args/\({} :Assume).holds C.prog (lone (Frame.enter C.prog f i.args .normal) [] (w.forCall tape i)))
  (hl:laidOutB C.prog=true) (hts: ∀t∈fn.params.toList,C.prog.readableRec t=true/\t<C.prog.types.size) (hb:C.prog.underlying tb=some .bool) (hres:fn.resultTypes= #[tb]) (hvars:s.vars= [])
  (hspec: ∀ds:List (DataW H),ds.length=fn.params.size->s.fn H ds= {results:= [.lit (.bool true)],args:=ds})
  (walk: ∀(W:World) (base:Nat) (args:Array Value) (ds:List (DataW H)) (p:List MemPlace),
   (∀(j:Nat) t v,fn.params[j]?=some t->args[j]?=some v->Value.okWide C.prog W .any base t v)->DataW.TrodAll enc C.prog W 0 (fun _=>true) true fn.params.toList args.toList ds p->
   conds.all (PathCond.test C.prog ⟨fn.params.toList,ds,s.plain.varTypes C.prog, []⟩)=true->(DataW.weightsEach C.prog (fn.params.toList++s.plain.varTypes C.prog) (ds++ [])).all (· <=reachBytes)=true->
   Calls C.prog f args W fun e w'=>e= .returned (.bool true)/\Below W.heap.size W w'):
  ReturnsInHanded {} C os f .any (s.pre6 enc C.prog fn conds false) (s.post enc C.prog fn false true false false):=by
 refine returnsInHanded_of_change_sized own started noInit hfn witness ?_
 intro W base args ds gs before hok hW hc hz _
 have hW':=hW
 obtain ⟨p,q,hA,hV,rfl,_,_⟩:=hW
 rw [hvars] at hV
 obtain ⟨rfl,rfl⟩:=trodVars_none hV
 refine (walk W base args ds p hok hA hc hz).mono fun e W' ⟨he,bel⟩=>?_
 subst he
 have hlen:ds.length=fn.params.size:=by
  have: ∀ {ts:List TypeId} {vs:List Value} {ds:List (DataW H)} {ps:List MemPlace},DataW.TrodAll enc C.prog W 0 (fun _=>true) true ts vs ds ps->ds.length=ts.length:=by
   intro ts
   induction ts with
   | nil=>intro vs ds ps h;obtain ⟨_,rfl,_⟩:=trodAll_nil h;rfl
   | cons t ts ih=>
    intro vs ds ps h
    obtain ⟨v,vs',d,ds',p,q,rfl,rfl,rfl,h1,h2⟩:=trodAll_cons h
    simp [ih h2]
  simpa using this hA
 refine ⟨_,rfl,ds, [],_, [],p, [],hW',?_,?_,?_,bel.frame _,fun h=>by cases h⟩
 ·rw [List.append_nil,hspec ds hlen,hres]
  exact trodAll_mk1 (shut_bool hb _)
 ·rw [List.append_nil,hspec ds hlen]
  exact below_trodAll hl bel hts hA (DataW.TrodAll.lt hA)
 ·rw [List.append_nil,hspec ds hlen,hvars]
  rfl
end
end Go.Proofs.YtfplalbognalkaaGreat.Ab
/- Arguments of the law's types, in the abstract view. -/
namespace Go.Proofs.YtfplalbognalkaaGreat.Ab
open Go Go.ChangeShapes Go.WideShapes Go.ChangeAt Go.RowKit
abbrev dVal (b:Bool) (v:Int):D:= .agg [.bool b,.int v]
section
variable {H:Type} {enc:TypeId×Value->H} {P:Program} {w:World} {base b0:Nat} {sp:Nat->Bool} {held:Bool}
end
end Go.Proofs.YtfplalbognalkaaGreat.Ab
/- Names, as plain functions of their bytes. -/
namespace Go.Proofs.YtfplalbognalkaaGreat.Ab
open Go
abbrev D.u8 (c:Int):D:= .e (.v (.int .u8 c))
def isLet (c:Int):Bool:=decide (65<=c/\c<=90) || decide (97<=c/\c<=122)
def isDig (c:Int):Bool:=decide (48<=c/\c<=57)
abbrev kw0:List UInt8:= [83,69,76,69,67,84]
abbrev kw1:List UInt8:= [68,73,83,84,73,78,67,84]
abbrev kw2:List UInt8:= [70,82,79,77]
abbrev kw3:List UInt8:= [87,72,69,82,69]
abbrev kw4:List UInt8:= [85,78,73,79,78]
abbrev kw5:List UInt8:= [65,76,76]
abbrev kw6:List UInt8:= [65,78,89]
abbrev kw7:List UInt8:= [65,78,68]
abbrev kw8:List UInt8:= [79,82]
abbrev kw9:List UInt8:= [78,79,84]
abbrev kw10:List UInt8:= [69,88,73,83,84,83]
abbrev kw11:List UInt8:= [73,78]
abbrev kw12:List UInt8:= [73,83]
abbrev kw13:List UInt8:= [78,85,76,76]
abbrev kw14:List UInt8:= [67,79,85,78,84]
abbrev kw15:List UInt8:= [77,73,78]
abbrev kw16:List UInt8:= [77,65,88]
def keyB (s:List UInt8):Bool:=(decide (s=kw0) || (decide (s=kw1) || (decide (s=kw2) || (decide (s=kw3) || (decide (s=kw4) || (decide (s=kw5) || (decide (s=kw6) || (decide (s=kw7) || (decide (s=kw8) || (decide (s=kw9) || (decide (s=kw10) || (decide (s=kw11) || (decide (s=kw12) || (decide (s=kw13) || (decide (s=kw14) || (decide (s=kw15) || decide (s=kw16)))))))))))))))))
def chAt (s:List UInt8) (j:Nat):Int:=((s.getD j 0).toNat:Int)
def okAt (s:List UInt8) (j:Nat):Bool:=isLet (chAt s j) || (decide (j≠0)&&(isDig (chAt s j) || decide (chAt s j=95)))
def isWord (s:List UInt8):Bool:=decide (0<s.length/\ ∀j,j<s.length->okAt s j=true)
def nameB (s:List UInt8):Bool:=isWord s&&(decide (s.length<=64)&&!keyB s)
end Go.Proofs.YtfplalbognalkaaGreat.Ab
/- Trees: which are valid, as the program and as the specification say it; that both say the same. -/
namespace Go.Proofs.YtfplalbognalkaaGreat.Ab
open Go
structure Nd where
 K:Int
 N:Int
 M:Int
 S:List UInt8
 T:List UInt8
 Ks:List Int
 deriving DecidableEq,Inhabited
abbrev ir (k:Int):List E:= [E.int k]
def chain (f:Int->Int):List Int->Int->Int
 | [],a=>a
 | k::r,a=>if a<1\/k≠a-1\/f (a-1)<0 then-1 else chain f r (f (a-1))
def kidsAt (ns:List Nd) (i:Nat):List Int:=(ns.getD i default).Ks
def stN (ns:List Nd):Nat->Nat->Int
 | 0,_=> -1
 | n+1,i=>chain (fun j=>stN ns n j.toNat) (kidsAt ns i).reverse i
def st (ns:List Nd) (i:Nat):Int:=stN ns (i+1) i
theorem chain_le {f:Int->Int} : ∀(r:List Int) (a:Int),-1<=a->(∀j,0<=j->j<a->f j<=j)->chain f r a<=a
 | [],a,_,_=>Int.le_refl _
 | k::r,a,ha,h=>by
  unfold chain
  split
  ·exact ha
  ·have h1:=h (a-1) (by omega) (by omega)
   have h2:=chain_le r (f (a-1)) (by omega) fun j h3 h4=>h j h3 (by omega)
   omega
theorem chain_congr {f g:Int->Int} : ∀(r:List Int) (a:Int),(∀j,0<=j->j<a->f j=g j/\f j<=j)->chain f r a=chain g r a
 | [],a,_=>rfl
 | k::r,a,h=>by
  unfold chain
  by_cases h1:a<1
  ·rw [if_pos (.inl h1),if_pos (.inl h1)]
  ·obtain ⟨e,l⟩:=h (a-1) (by omega) (by omega)
   rw [<-e]
   split
   ·rfl
   ·exact chain_congr r _ fun j h3 h4=>h j h3 (by omega)
theorem chain_mem {f:Int->Int} (hf: ∀j,0<=j->f j<=j): ∀(r:List Int) (a:Int),0<=chain f r a->(∀k∈r,0<=k/\k<a/\0<=f k)/\ ∀j,chain f r a<=j->j<a-> ∃k∈r,f k<=j/\j<=k
 | [],a,h=>⟨fun k hk=>(List.not_mem_nil hk).elim,fun j h1 h2=>absurd h1 (by show¬a<=j;omega)⟩
 | k::r,a,h=>by
  unfold chain at h ⊢
  split at h
  ·omega
  ·rename_i hc
   rw [if_neg hc]
   have hl:=hf (a-1) (by omega)
   obtain ⟨q1,q2⟩:=chain_mem hf r _ h
   refine ⟨fun x hx=>?_,fun j h1 h2=>?_⟩
   ·rcases List.mem_cons.1 hx with rfl | hx
    ·have:x=a-1:=by omega
     subst this
     omega
    ·have:=q1 x hx
     omega
   ·by_cases hj:f (a-1)<=j
    ·exact ⟨k,by simp,by rw [show k=a-1 by omega];exact hj,by omega⟩
    ·obtain ⟨x,x1,x2⟩:=q2 j h1 (by omega)
     exact ⟨x,by simp [x1],x2⟩
end Go.Proofs.YtfplalbognalkaaGreat.Ab
/- The code of the functions, in the small language. -/
namespace Go.Proofs.YtfplalbognalkaaGreat.Ab
open Go
theorem mixed:Tryz.prog.follows .mixedOrders=true:=by kernel_rfl
def c235:F:=⟨11, [(.cell 2 true 2)],(.seq (.reg [ZA 1 (.box 0),ZA 2 (.alloc [(.bool false),(.int 0)])]) (.seq (.reg [ZA 3 (.alloc [(.bool false),(.int 0)])]) (.seq (.reg [ZE 4 0 1,ZL 5 4,ZE 6 0 3,ZN (.store false 1 6 5)]) (.seq (.reg [ZE 7 1 1,ZL 8 7,ZE 9 1 3,ZN (.store false 1 9 8)]) (.seq (.reg [ZA 10 (.load true 2 3),ZN (.store true 2 2 10)]) .ret)))))⟩
theorem p235:prepF Tryz.prog 235=some c235:=by kernel_rfl
def c121:F:=⟨15, [(.tmp 4)],(.seq (.reg [ZA 2 (.box 0),ZA 3 (.box 1),ZA 4 ZF0]) (.seq (.seq (.reg [ZE 5 0 2,ZL 6 5,ZE 7 0 3,ZL 8 7,ZA 9 (.binb .neq 6 8)]) (.cond 9 (.seq (.reg [ZA 4 ZF0]) .ret) .skip)) (.seq (.seq (.reg [ZE 10 1 2,ZL 11 10,ZE 12 1 3,ZL 13 12,ZA 14 (.bin .neq 11 13)]) (.cond 14 (.seq (.reg [ZA 4 ZF0]) .ret) .skip)) (.seq (.reg [ZA 4 ZT0]) .ret))))⟩
theorem p121:prepF Tryz.prog 121=some c121:=by kernel_rfl
end Go.Proofs.YtfplalbognalkaaGreat.Ab
/- The code of functions, in the small language. -/
namespace Go.Proofs.YtfplalbognalkaaGreat.Ab
open Go
def c7:F:=⟨12, [(.tmp 4)],(.seq (.reg [ZA 2 (.box 0),ZA 4 (.mov (.c (.int 0)))]) (.seq (.reg [ZE 5 0 2,ZL 6 5,ZM 7 1,ZC 8 32 [6,7],ZM 1 8]) (.seq (.seq (.reg [ZM 9 1,ZA 10 (.bin .lss 9 (.c (.int 0)))]) (.cond 10 (.seq (.reg [ZA 4 (.mov (.c (.int (-1))))]) .ret) .skip)) (.seq (.reg [ZM 11 1,ZM 4 11]) .ret))))⟩
theorem p7:prepF Tryz.prog 7=some c7:=by kernel_rfl
def c10:F:=⟨9, [(.cell 2 true 1)],(.seq (.reg [ZA 1 (.box 0),ZA 2 (.alloc [(.e (.sl []))])]) (.seq (.reg [ZA 3 (.alloc [(.e (.sl []))])]) (.seq (.reg [ZE 4 0 1,ZL 5 4,ZC 6 36 [5],ZE 7 0 3,ZN (.store false 1 7 6)]) (.seq (.reg [ZA 8 (.load true 1 3),ZN (.store true 1 2 8)]) .ret))))⟩
theorem p10:prepF Tryz.prog 10=some c10:=by kernel_rfl
def c14:F:=⟨11, [(.tmp 4)],(.seq (.reg [ZA 2 (.box 0),ZA 3 (.box 1),ZA 4 ZF0]) (.seq (.seq (.reg [ZE 5 0 2,ZL 6 5,ZE 7 0 3,ZL 8 7,ZC 9 42 [6,8],ZA 10 (.un .not 9)]) (.cond 10 (.seq (.reg [ZA 4 ZF0]) .ret) .skip)) (.seq (.reg [ZA 4 ZT0]) .ret)))⟩
theorem p14:prepF Tryz.prog 14=some c14:=by kernel_rfl
def c152:F:=⟨27, [(.tmp 4)],(.seq (.reg [ZA 4 (.mov (.c (.int 0)))]) (.seq (.reg [ZM 6 1,ZM 7 0,ZA 8 (.lenl 7),ZA 9 (.bin .sub 6 8),ZM 1 9]) (.seq (.seq (.reg [ZM 10 1,ZA 11 (.bin .lss 10 (.c (.int 0)))]) (.cond 11 (.seq (.reg [ZA 4 (.mov (.c (.int (-1))))]) .ret) .skip)) (.seq (.seq (.reg [ZA 5 (.mov (.c (.int 0)))]) (.block 0 (.loop (.seq (.seq (.reg [ZM 12 5,ZM 13 0,ZA 14 (.lenl 13),ZA 15 (.bin .lss 12 14)]) (.cond 15 .skip (.exit 0))) (.seq (.block 1 (.seq (.reg [ZM 18 0,ZM 19 5,ZA 20 (.iadr none 1 18 19),ZL 21 20,ZM 22 1,ZC 23 210 [21,22],ZM 1 23]) (.seq (.reg [ZM 24 1,ZA 25 (.bin .lss 24 (.c (.int 0)))]) (.cond 25 (.seq (.reg [ZA 4 (.mov (.c (.int (-1))))]) .ret) .skip)))) (.reg [ZM 16 5,ZA 17 (.bin .add 16 (.c (.int 1))),ZM 5 17])))))) (.seq (.reg [ZM 26 1,ZM 4 26]) .ret)))))⟩
theorem p152:prepF Tryz.prog 152=some c152:=by kernel_rfl
def c161:F:=⟨23, [(.tmp 2)],(.seq (.reg [ZA 2 (.mov (.c .zs))]) (.seq (.reg [ZM 5 0,ZA 6 (.lenl 5),ZA 7 (.mks [(.e (.sl []))] 6),ZM 3 7]) (.seq (.seq (.reg [ZA 4 (.mov (.c (.int 0)))]) (.block 0 (.loop (.seq (.seq (.reg [ZM 8 4,ZM 9 0,ZA 10 (.lenl 9),ZA 11 (.bin .lss 8 10)]) (.cond 11 .skip (.exit 0))) (.seq (.block 1 (.reg [ZM 14 3,ZM 15 4,ZM 16 0,ZM 17 4,ZA 18 (.iadr none 1 16 17),ZL 19 18,ZC 20 215 [19],ZA 21 (.iadr none 1 14 15),ZN (.store false 1 21 20)])) (.reg [ZM 12 4,ZA 13 (.bin .add 12 (.c (.int 1))),ZM 4 13])))))) (.seq (.reg [ZM 22 3,ZM 2 22]) .ret))))⟩
theorem p161:prepF Tryz.prog 161=some c161:=by kernel_rfl
def c21:F:=⟨27, [(.tmp 4)],(.seq (.reg [ZA 4 ZF0]) (.seq (.seq (.reg [ZM 6 0,ZA 7 (.lenl 6),ZM 8 1,ZA 9 (.lenl 8),ZA 10 (.bin .neq 7 9)]) (.cond 10 (.seq (.reg [ZA 4 ZF0]) .ret) .skip)) (.seq (.seq (.reg [ZA 5 (.mov (.c (.int 0)))]) (.block 0 (.loop (.seq (.seq (.reg [ZM 11 5,ZM 12 0,ZA 13 (.lenl 12),ZA 14 (.bin .lss 11 13)]) (.cond 14 .skip (.exit 0))) (.seq (.block 1 (.seq (.dreg [⟨ZM 17 0, [], [0]⟩,⟨ZM 18 5, [0], [5]⟩,⟨ZA 19 (.iadr none 1 17 18), [], [17,18]⟩,⟨ZL 20 19, [], [19]⟩,⟨ZM 21 1, [0,1,2,3], [1]⟩,⟨ZM 22 5, [0,1,2,3,4], [5]⟩,⟨ZA 23 (.iadr none 1 21 22), [0,1,2,3], [21,22]⟩,⟨ZL 24 23, [0,1,2,3], [23]⟩,⟨ZC 25 53 [20,24], [], [20,24]⟩,⟨ZA 26 (.un .not 25), [], [25]⟩]) (.cond 26 (.seq (.reg [ZA 4 ZF0]) .ret) .skip))) (.reg [ZM 15 5,ZA 16 (.bin .add 15 (.c (.int 1))),ZM 5 16])))))) (.seq (.reg [ZA 4 ZT0]) .ret))))⟩
theorem p21:prepF Tryz.prog 21=some c21:=by kernel_rfl
def c32:F:=⟨27, [(.tmp 4)],(.seq (.reg [ZA 4 (.mov (.c (.int 0)))]) (.seq (.reg [ZM 6 1,ZM 7 0,ZA 8 (.lenl 7),ZA 9 (.bin .sub 6 8),ZM 1 9]) (.seq (.seq (.reg [ZM 10 1,ZA 11 (.bin .lss 10 (.c (.int 0)))]) (.cond 11 (.seq (.reg [ZA 4 (.mov (.c (.int (-1))))]) .ret) .skip)) (.seq (.seq (.reg [ZA 5 (.mov (.c (.int 0)))]) (.block 0 (.loop (.seq (.seq (.reg [ZM 12 5,ZM 13 0,ZA 14 (.lenl 13),ZA 15 (.bin .lss 12 14)]) (.cond 15 .skip (.exit 0))) (.seq (.block 1 (.seq (.reg [ZM 18 0,ZM 19 5,ZA 20 (.iadr none 3 18 19),ZA 21 (.load true 3 20),ZM 22 1,ZC 23 77 [21,22],ZM 1 23]) (.seq (.reg [ZM 24 1,ZA 25 (.bin .lss 24 (.c (.int 0)))]) (.cond 25 (.seq (.reg [ZA 4 (.mov (.c (.int (-1))))]) .ret) .skip)))) (.reg [ZM 16 5,ZA 17 (.bin .add 16 (.c (.int 1))),ZM 5 17])))))) (.seq (.reg [ZM 26 1,ZM 4 26]) .ret)))))⟩
theorem p32:prepF Tryz.prog 32=some c32:=by kernel_rfl
def c36:F:=⟨23, [(.tmp 2)],(.seq (.reg [ZA 2 (.mov (.c .zs))]) (.seq (.reg [ZM 5 0,ZA 6 (.lenl 5),ZA 7 (.mks [(.str []),(.int 0),(.e (.sl []))] 6),ZM 3 7]) (.seq (.seq (.reg [ZA 4 (.mov (.c (.int 0)))]) (.block 0 (.loop (.seq (.seq (.reg [ZM 8 4,ZM 9 0,ZA 10 (.lenl 9),ZA 11 (.bin .lss 8 10)]) (.cond 11 .skip (.exit 0))) (.seq (.block 1 (.reg [ZM 14 3,ZM 15 4,ZM 16 0,ZM 17 4,ZA 18 (.iadr none 3 16 17),ZA 19 (.load true 3 18),ZC 20 85 [19],ZA 21 (.iadr none 3 14 15),ZN (.store true 3 21 20)])) (.reg [ZM 12 4,ZA 13 (.bin .add 12 (.c (.int 1))),ZM 4 13])))))) (.seq (.reg [ZM 22 3,ZM 2 22]) .ret))))⟩
theorem p36:prepF Tryz.prog 36=some c36:=by kernel_rfl
def c42:F:=⟨27, [(.tmp 4)],(.seq (.reg [ZA 4 ZF0]) (.seq (.seq (.reg [ZM 6 0,ZA 7 (.lenl 6),ZM 8 1,ZA 9 (.lenl 8),ZA 10 (.bin .neq 7 9)]) (.cond 10 (.seq (.reg [ZA 4 ZF0]) .ret) .skip)) (.seq (.seq (.reg [ZA 5 (.mov (.c (.int 0)))]) (.block 0 (.loop (.seq (.seq (.reg [ZM 11 5,ZM 12 0,ZA 13 (.lenl 12),ZA 14 (.bin .lss 11 13)]) (.cond 14 .skip (.exit 0))) (.seq (.block 1 (.seq (.dreg [⟨ZM 17 0, [], [0]⟩,⟨ZM 18 5, [0], [5]⟩,⟨ZA 19 (.iadr none 3 17 18), [], [17,18]⟩,⟨ZA 20 (.load true 3 19), [], [19]⟩,⟨ZM 21 1, [0,1,2,3], [1]⟩,⟨ZM 22 5, [0,1,2,3,4], [5]⟩,⟨ZA 23 (.iadr none 3 21 22), [0,1,2,3], [21,22]⟩,⟨ZA 24 (.load true 3 23), [0,1,2,3], [23]⟩,⟨ZC 25 94 [20,24], [], [20,24]⟩,⟨ZA 26 (.un .not 25), [], [25]⟩]) (.cond 26 (.seq (.reg [ZA 4 ZF0]) .ret) .skip))) (.reg [ZM 15 5,ZA 16 (.bin .add 15 (.c (.int 1))),ZM 5 16])))))) (.seq (.reg [ZA 4 ZT0]) .ret))))⟩
theorem p42:prepF Tryz.prog 42=some c42:=by kernel_rfl
def c77:F:=⟨19, [(.tmp 4)],(.seq (.reg [ZA 2 (.box 0),ZA 4 (.mov (.c (.int 0)))]) (.seq (.reg [ZM 5 1,ZE 6 0 2,ZL 7 6,ZA 8 (.lens 7),ZA 9 (.bin .sub 5 8),ZM 1 9]) (.seq (.seq (.reg [ZM 10 1,ZA 11 (.bin .lss 10 (.c (.int 0)))]) (.cond 11 (.seq (.reg [ZA 4 (.mov (.c (.int (-1))))]) .ret) .skip)) (.seq (.reg [ZE 12 2 2,ZL 13 12,ZM 14 1,ZC 15 152 [13,14],ZM 1 15]) (.seq (.seq (.reg [ZM 16 1,ZA 17 (.bin .lss 16 (.c (.int 0)))]) (.cond 17 (.seq (.reg [ZA 4 (.mov (.c (.int (-1))))]) .ret) .skip)) (.seq (.reg [ZM 18 1,ZM 4 18]) .ret))))))⟩
theorem p77:prepF Tryz.prog 77=some c77:=by kernel_rfl
def c85:F:=⟨15, [(.cell 2 true 3)],(.seq (.reg [ZA 1 (.box 0),ZA 2 (.alloc [(.str []),(.int 0),(.e (.sl []))])]) (.seq (.reg [ZA 3 (.alloc [(.str []),(.int 0),(.e (.sl []))])]) (.seq (.reg [ZE 4 0 1,ZL 5 4,ZE 6 0 3,ZN (.store false 1 6 5)]) (.seq (.reg [ZE 7 1 1,ZL 8 7,ZE 9 1 3,ZN (.store false 1 9 8)]) (.seq (.reg [ZE 10 2 1,ZL 11 10,ZC 12 161 [11],ZE 13 2 3,ZN (.store false 1 13 12)]) (.seq (.reg [ZA 14 (.load true 3 3),ZN (.store true 3 2 14)]) .ret))))))⟩
theorem p85:prepF Tryz.prog 85=some c85:=by kernel_rfl
def c94:F:=⟨21, [(.tmp 4)],(.seq (.reg [ZA 2 (.box 0),ZA 3 (.box 1),ZA 4 ZF0]) (.seq (.seq (.reg [ZE 5 0 2,ZL 6 5,ZE 7 0 3,ZL 8 7,ZA 9 (.bin .neq 6 8)]) (.cond 9 (.seq (.reg [ZA 4 ZF0]) .ret) .skip)) (.seq (.seq (.reg [ZE 10 1 2,ZL 11 10,ZE 12 1 3,ZL 13 12,ZA 14 (.bin .neq 11 13)]) (.cond 14 (.seq (.reg [ZA 4 ZF0]) .ret) .skip)) (.seq (.seq (.reg [ZE 15 2 2,ZL 16 15,ZE 17 2 3,ZL 18 17,ZC 19 21 [16,18],ZA 20 (.un .not 19)]) (.cond 20 (.seq (.reg [ZA 4 ZF0]) .ret) .skip)) (.seq (.reg [ZA 4 ZT0]) .ret)))))⟩
theorem p94:prepF Tryz.prog 94=some c94:=by kernel_rfl
def c78:F:=⟨68, [(.tmp 2)],(.seq (.reg [ZA 1 (.box 0),ZA 2 ZF0]) (.seq (.seq (.reg [ZE 7 0 1,ZL 8 7,ZA 9 (.lenl 8),ZA 10 (.bin .gtr 9 (.c (.int 50)))]) (.cond 10 (.seq (.reg [ZA 2 ZF0]) .ret) .skip)) (.seq (.reg [ZA 3 (.mov (.c (.int 0)))]) (.seq (.seq (.reg [ZA 4 (.mov (.c (.int 0)))]) (.block 0 (.loop (.seq (.seq (.reg [ZM 11 4,ZE 12 0 1,ZL 13 12,ZA 14 (.lenl 13),ZA 15 (.bin .lss 11 14)]) (.cond 15 .skip (.exit 0))) (.seq (.block 1 (.seq (.reg [ZE 18 0 1,ZL 19 18,ZM 20 4,ZA 21 (.iadr none 3 19 20),ZA 22 (.load true 3 21),ZA 5 (.alloc [(.str []),(.int 0),(.e (.sl []))]),ZN (.store true 3 5 22)]) (.seq (.seq (.reg [ZE 23 0 5,ZL 24 23,ZC 25 153 [24],ZA 26 (.un .not 25),ZM 27 26,ZF 28 27 (.fadr 1 5),ZF 29 27 (.load false 1 28),ZF 30 27 (.bin .lss 29 (.c (.int 1))),ZA 31 (.pick 27 (.c (.bool true)) 30),ZM 32 31,ZF 33 32 (.fadr 1 5),ZF 34 32 (.load false 1 33),ZF 35 32 (.bin .gtr 34 (.c (.int 16))),ZA 36 (.pick 32 (.c (.bool true)) 35),ZM 37 36,ZF 38 37 (.load true 1 1),ZF 39 37 (.fadr 0 5),ZF 40 37 (.load false 1 39),ZF 41 37 (.call 154 [38,40]),ZF 42 37 (.mov 4),ZF 43 37 (.bin .neq 41 42),ZA 44 (.pick 37 (.c (.bool true)) 43)]) (.cond 44 (.seq (.reg [ZA 2 ZF0]) .ret) .skip)) (.seq (.seq (.reg [ZA 6 (.mov (.c (.int 0)))]) (.block 2 (.loop (.seq (.seq (.reg [ZM 45 6,ZE 46 2 5,ZL 47 46,ZA 48 (.lenl 47),ZA 49 (.bin .lss 45 48)]) (.cond 49 .skip (.exit 2))) (.seq (.block 3 (.seq (.dreg [⟨ZE 52 2 5, [], [5]⟩,⟨ZL 53 52, [], [52]⟩,⟨ZM 54 6, [0,1], [6]⟩,⟨ZA 55 (.iadr none 1 53 54), [], [53,54]⟩,⟨ZL 56 55, [], [55]⟩,⟨ZA 57 (.lenl 56), [], [56]⟩,⟨ZE 58 1 5, [0,1,2,3,4,5], [5]⟩,⟨ZL 59 58, [0,1,2,3,4,5], [58]⟩,⟨ZA 60 (.bin .neq 57 59), [], [57,59]⟩]) (.cond 60 (.seq (.reg [ZA 2 ZF0]) .ret) .skip))) (.reg [ZM 50 6,ZA 51 (.bin .add 50 (.c (.int 1))),ZM 6 51])))))) (.reg [ZM 61 3,ZE 62 2 5,ZL 63 62,ZA 64 (.lenl 63),ZA 65 (.bin .add 61 64),ZM 3 65]))))) (.reg [ZM 16 4,ZA 17 (.bin .add 16 (.c (.int 1))),ZM 4 17])))))) (.seq (.reg [ZM 66 3,ZA 67 (.bin .leq 66 (.c (.int 1000))),ZM 2 67]) .ret)))))⟩
theorem p78:prepF Tryz.prog 78=some c78:=by kernel_rfl
def c61:F:=⟨73, [(.tmp 2)],(.seq (.reg [ZA 1 (.box 0),ZA 2 ZF0]) (.seq (.seq (.reg [ZE 11 0 1,ZL 12 11,ZA 13 (.lenl 12),ZA 14 (.bin .gtr 13 (.c (.int 50)))]) (.cond 14 (.seq (.reg [ZA 2 ZF0]) .ret) .skip)) (.seq (.reg [ZA 15 .mkm,ZM 3 15]) (.seq (.reg [ZA 4 (.mov (.c (.int 0)))]) (.seq (.seq (.reg [ZE 16 0 1,ZL 17 16,ZA 18 (.lenl 17),ZA 19 (.mov (.c (.int 0)))]) (.block 0 (.loop (.seq (.reg [ZA 20 (.bin .lss 19 18)]) (.seq (.cond 20 .skip (.exit 0)) (.seq (.block 1 (.seq (.reg [ZM 21 19,ZA 22 (.iadr none 3 17 19),ZA 23 (.load true 3 22),ZA 6 (.alloc [(.str []),(.int 0),(.e (.sl []))]),ZM 5 21,ZN (.store true 3 6 23)]) (.seq (.seq (.reg [ZM 25 3,ZE 26 0 6,ZL 27 26,ZA 28 (.mget true (.v (.int .i64 0)) 25 27),ZM 24 28,ZA 29 (.ext 0 24),ZA 30 (.ext 1 24),ZM 7 29,ZM 8 30]) (.seq (.reg [ZM 31 8,ZM 32 31,ZF 33 32 (.fadr 0 6),ZF 34 32 (.load false 1 33),ZF 35 32 (.call 132 [34]),ZF 36 32 (.un .not 35),ZA 37 (.pick 32 (.c (.bool true)) 36),ZM 38 37,ZF 39 38 (.fadr 1 6),ZF 40 38 (.load false 1 39),ZF 41 38 (.bin .lss 40 (.c (.int 1))),ZA 42 (.pick 38 (.c (.bool true)) 41),ZM 43 42,ZF 44 43 (.fadr 1 6),ZF 45 43 (.load false 1 44),ZF 46 43 (.bin .gtr 45 (.c (.int 16))),ZA 47 (.pick 43 (.c (.bool true)) 46)]) (.cond 47 (.seq (.reg [ZA 2 ZF0]) .ret) .skip))) (.seq (.reg [ZM 48 3,ZE 49 0 6,ZL 50 49,ZM 51 5,ZN (.mput 48 50 51)]) (.seq (.reg [ZM 52 4,ZE 53 2 6,ZL 54 53,ZA 55 (.lenl 54),ZA 56 (.bin .add 52 55),ZM 4 56]) (.seq (.reg [ZE 57 2 6,ZL 58 57,ZA 59 (.lenl 58),ZA 60 (.mov (.c (.int 0)))]) (.block 2 (.loop (.seq (.reg [ZA 61 (.bin .lss 60 59)]) (.seq (.cond 61 .skip (.exit 2)) (.seq (.block 3 (.seq (.reg [ZA 62 (.iadr none 1 58 60),ZL 63 62,ZM 10 63]) (.seq (.reg [ZM 64 10,ZA 65 (.lenl 64),ZE 66 1 6,ZL 67 66,ZA 68 (.bin .neq 65 67)]) (.cond 68 (.seq (.reg [ZA 2 ZF0]) .ret) .skip)))) (.reg [ZA 69 (.bin .add 60 (.c (.int 1))),ZM 60 69])))))))))))) (.reg [ZA 70 (.bin .add 19 (.c (.int 1))),ZM 19 70]))))))) (.seq (.reg [ZM 71 4,ZA 72 (.bin .leq 71 (.c (.int 1000))),ZM 2 72]) .ret))))))⟩
theorem p61:prepF Tryz.prog 61=some c61:=by kernel_rfl
def c153:F:=⟨15, [(.tmp 2)],(.seq (.reg [ZA 2 ZF0]) (.seq (.reg [ZM 3 0,ZC 4 211 [3],ZM 5 4,ZT 6 5 (.mov 0),ZT 7 5 (.lens 6),ZT 8 5 (.bin .leq 7 (.c (.int 64))),ZA 9 (.pick 5 8 (.c (.bool false))),ZM 10 9,ZT 11 10 (.mov 0),ZT 12 10 (.call 212 [11]),ZT 13 10 (.un .not 12),ZA 14 (.pick 10 13 (.c (.bool false))),ZM 2 14]) .ret))⟩
theorem p153:prepF Tryz.prog 153=some c153:=by kernel_rfl
def c154:F:=⟨22, [(.tmp 4)],(.seq (.reg [ZA 2 (.box 0),ZA 4 (.mov (.c (.int 0)))]) (.seq (.seq (.reg [ZA 5 (.mov (.c (.int 0)))]) (.block 0 (.loop (.seq (.seq (.reg [ZM 6 5,ZE 7 0 2,ZL 8 7,ZA 9 (.lenl 8),ZA 10 (.bin .lss 6 9)]) (.cond 10 .skip (.exit 0))) (.seq (.block 1 (.seq (.reg [ZE 13 0 2,ZL 14 13,ZM 15 5,ZA 16 (.iadr none 3 14 15),ZE 17 0 16,ZL 18 17,ZM 19 1,ZA 20 (.bin .eql 18 19)]) (.cond 20 (.seq (.reg [ZM 21 5,ZM 4 21]) .ret) .skip))) (.reg [ZM 11 5,ZA 12 (.bin .add 11 (.c (.int 1))),ZM 5 12])))))) (.seq (.reg [ZA 4 (.mov (.c (.int (-1))))]) .ret)))⟩
theorem p154:prepF Tryz.prog 154=some c154:=by kernel_rfl
def c132:F:=⟨46, [(.tmp 2)],(.seq (.reg [ZA 2 ZF0]) (.seq (.seq (.reg [ZM 4 0,ZA 5 (.lens 4),ZA 6 (.bin .lss 5 (.c (.int 1))),ZM 7 6,ZF 8 7 (.mov 0),ZF 9 7 (.lens 8),ZF 10 7 (.bin .gtr 9 (.c (.int 64))),ZA 11 (.pick 7 (.c (.bool true)) 10),ZM 12 11,ZF 13 12 (.mov 0),ZF 14 12 (.ixs 13 (.c (.int 0))),ZF 15 12 (.call 195 [14]),ZF 16 12 (.un .not 15),ZA 17 (.pick 12 (.c (.bool true)) 16),ZM 18 17,ZF 19 18 (.mov 0),ZF 20 18 (.call 196 [19]),ZA 21 (.pick 18 (.c (.bool true)) 20)]) (.cond 21 (.seq (.reg [ZA 2 ZF0]) .ret) .skip)) (.seq (.seq (.reg [ZM 22 0,ZA 23 (.lens 22),ZA 24 (.mov (.c (.int 0)))]) (.block 0 (.loop (.seq (.reg [ZA 25 (.bin .lss 24 23)]) (.seq (.cond 25 .skip (.exit 0)) (.seq (.block 1 (.seq (.reg [ZM 26 24,ZM 3 26]) (.seq (.reg [ZM 27 0,ZM 28 3,ZA 29 (.ixs 27 28),ZC 30 195 [29],ZA 31 (.un .not 30),ZM 32 31,ZT 33 32 (.mov 0),ZT 34 32 (.mov 3),ZT 35 32 (.ixs 33 34),ZT 36 32 (.call 197 [35]),ZT 37 32 (.un .not 36),ZA 38 (.pick 32 37 (.c (.bool false))),ZM 39 38,ZT 40 39 (.mov 0),ZT 41 39 (.mov 3),ZT 42 39 (.ixs 40 41),ZT 43 39 (.bin .neq 42 (.c (.e (.v (.int .u8 95))))),ZA 44 (.pick 39 43 (.c (.bool false)))]) (.cond 44 (.seq (.reg [ZA 2 ZF0]) .ret) .skip)))) (.reg [ZA 45 (.bin .add 24 (.c (.int 1))),ZM 24 45]))))))) (.seq (.reg [ZA 2 ZT0]) .ret))))⟩
theorem p132:prepF Tryz.prog 132=some c132:=by kernel_rfl
def c211:F:=⟨35, [(.tmp 2)],(.seq (.reg [ZA 2 ZF0]) (.seq (.seq (.reg [ZA 3 (.mov (.c (.int 0)))]) (.block 0 (.loop (.seq (.seq (.reg [ZM 4 3,ZM 5 0,ZA 6 (.lens 5),ZA 7 (.bin .lss 4 6)]) (.cond 7 .skip (.exit 0))) (.seq (.block 1 (.seq (.reg [ZM 10 0,ZM 11 3,ZA 12 (.ixs 10 11),ZC 13 232 [12],ZA 14 (.un .not 13),ZM 15 14,ZT 16 15 (.mov 3),ZT 17 15 (.bin .eql 16 (.c (.int 0))),ZT 18 15 (.mov 17),ZF 19 18 (.mov 0),ZF 20 18 (.mov 3),ZF 21 18 (.ixs 19 20),ZF 22 18 (.call 233 [21]),ZF 23 18 (.un .not 22),ZF 24 18 (.mov 23),ZT 25 24 (.mov 0),ZT 26 24 (.mov 3),ZT 27 24 (.ixs 25 26),ZT 28 24 (.bin .neq 27 (.c (.e (.v (.int .u8 95))))),ZF 29 18 (.pick 24 28 (.c (.bool false))),ZT 30 15 (.pick 18 (.c (.bool true)) 29),ZA 31 (.pick 15 30 (.c (.bool false)))]) (.cond 31 (.seq (.reg [ZA 2 ZF0]) .ret) .skip))) (.reg [ZM 8 3,ZA 9 (.bin .add 8 (.c (.int 1))),ZM 3 9])))))) (.seq (.reg [ZM 32 0,ZA 33 (.lens 32),ZA 34 (.bin .gtr 33 (.c (.int 0))),ZM 2 34]) .ret)))⟩
theorem p211:prepF Tryz.prog 211=some c211:=by kernel_rfl
def c212:F:=⟨69, [(.tmp 2)],(.seq (.reg [ZA 2 ZF0]) (.seq (.reg [ZM 3 0,ZA 4 (.bin .eql 3 (.c (.str [83,69,76,69,67,84]))),ZM 5 4,ZF 6 5 (.mov 0),ZF 7 5 (.bin .eql 6 (.c (.str [68,73,83,84,73,78,67,84]))),ZA 8 (.pick 5 (.c (.bool true)) 7),ZM 9 8,ZF 10 9 (.mov 0),ZF 11 9 (.bin .eql 10 (.c (.str [70,82,79,77]))),ZA 12 (.pick 9 (.c (.bool true)) 11),ZM 13 12,ZF 14 13 (.mov 0),ZF 15 13 (.bin .eql 14 (.c (.str [87,72,69,82,69]))),ZA 16 (.pick 13 (.c (.bool true)) 15),ZM 17 16,ZF 18 17 (.mov 0),ZF 19 17 (.bin .eql 18 (.c (.str [85,78,73,79,78]))),ZA 20 (.pick 17 (.c (.bool true)) 19),ZM 21 20,ZF 22 21 (.mov 0),ZF 23 21 (.bin .eql 22 (.c (.str [65,76,76]))),ZA 24 (.pick 21 (.c (.bool true)) 23),ZM 25 24,ZF 26 25 (.mov 0),ZF 27 25 (.bin .eql 26 (.c (.str [65,78,89]))),ZA 28 (.pick 25 (.c (.bool true)) 27),ZM 29 28,ZF 30 29 (.mov 0),ZF 31 29 (.bin .eql 30 (.c (.str [65,78,68]))),ZA 32 (.pick 29 (.c (.bool true)) 31),ZM 33 32,ZF 34 33 (.mov 0),ZF 35 33 (.bin .eql 34 (.c (.str [79,82]))),ZA 36 (.pick 33 (.c (.bool true)) 35),ZM 37 36,ZF 38 37 (.mov 0),ZF 39 37 (.bin .eql 38 (.c (.str [78,79,84]))),ZA 40 (.pick 37 (.c (.bool true)) 39),ZM 41 40,ZF 42 41 (.mov 0),ZF 43 41 (.bin .eql 42 (.c (.str [69,88,73,83,84,83]))),ZA 44 (.pick 41 (.c (.bool true)) 43),ZM 45 44,ZF 46 45 (.mov 0),ZF 47 45 (.bin .eql 46 (.c (.str [73,78]))),ZA 48 (.pick 45 (.c (.bool true)) 47),ZM 49 48,ZF 50 49 (.mov 0),ZF 51 49 (.bin .eql 50 (.c (.str [73,83]))),ZA 52 (.pick 49 (.c (.bool true)) 51),ZM 53 52,ZF 54 53 (.mov 0),ZF 55 53 (.bin .eql 54 (.c (.str [78,85,76,76]))),ZA 56 (.pick 53 (.c (.bool true)) 55),ZM 57 56,ZF 58 57 (.mov 0),ZF 59 57 (.bin .eql 58 (.c (.str [67,79,85,78,84]))),ZA 60 (.pick 57 (.c (.bool true)) 59),ZM 61 60,ZF 62 61 (.mov 0),ZF 63 61 (.bin .eql 62 (.c (.str [77,73,78]))),ZA 64 (.pick 61 (.c (.bool true)) 63),ZM 65 64,ZF 66 65 (.mov 0),ZF 67 65 (.bin .eql 66 (.c (.str [77,65,88]))),ZA 68 (.pick 65 (.c (.bool true)) 67),ZM 2 68]) .ret))⟩
theorem p212:prepF Tryz.prog 212=some c212:=by kernel_rfl
def c195:F:=⟨17, [(.tmp 2)],(.seq (.reg [ZA 2 ZF0]) (.seq (.reg [ZM 3 0,ZA 4 (.bin .geq 3 (.c (.e (.v (.int .u8 97))))),ZM 5 4,ZT 6 5 (.mov 0),ZT 7 5 (.bin .leq 6 (.c (.e (.v (.int .u8 122))))),ZA 8 (.pick 5 7 (.c (.bool false))),ZM 9 8,ZF 10 9 (.mov 0),ZF 11 9 (.bin .geq 10 (.c (.e (.v (.int .u8 65))))),ZF 12 9 (.mov 11),ZT 13 12 (.mov 0),ZT 14 12 (.bin .leq 13 (.c (.e (.v (.int .u8 90))))),ZF 15 9 (.pick 12 14 (.c (.bool false))),ZA 16 (.pick 9 (.c (.bool true)) 15),ZM 2 16]) .ret))⟩
theorem p195:prepF Tryz.prog 195=some c195:=by kernel_rfl
def c196:F:=⟨22, [(.tmp 2)],(.seq (.reg [ZA 2 ZF0]) (.seq (.seq (.reg [ZM 3 0]) (.block 0 (.seq (.seq (.reg [ZA 5 (.bin .eql 3 (.c (.str [83,69,76,69,67,84]))),ZM 4 5]) (.cond 4 .skip (.seq (.reg [ZA 6 (.bin .eql 3 (.c (.str [68,73,83,84,73,78,67,84]))),ZM 4 6]) (.cond 4 .skip (.seq (.reg [ZA 7 (.bin .eql 3 (.c (.str [70,82,79,77]))),ZM 4 7]) (.cond 4 .skip (.seq (.reg [ZA 8 (.bin .eql 3 (.c (.str [87,72,69,82,69]))),ZM 4 8]) (.cond 4 .skip (.seq (.reg [ZA 9 (.bin .eql 3 (.c (.str [85,78,73,79,78]))),ZM 4 9]) (.cond 4 .skip (.seq (.reg [ZA 10 (.bin .eql 3 (.c (.str [65,76,76]))),ZM 4 10]) (.cond 4 .skip (.seq (.reg [ZA 11 (.bin .eql 3 (.c (.str [65,78,89]))),ZM 4 11]) (.cond 4 .skip (.seq (.reg [ZA 12 (.bin .eql 3 (.c (.str [65,78,68]))),ZM 4 12]) (.cond 4 .skip (.seq (.reg [ZA 13 (.bin .eql 3 (.c (.str [79,82]))),ZM 4 13]) (.cond 4 .skip (.seq (.reg [ZA 14 (.bin .eql 3 (.c (.str [78,79,84]))),ZM 4 14]) (.cond 4 .skip (.seq (.reg [ZA 15 (.bin .eql 3 (.c (.str [69,88,73,83,84,83]))),ZM 4 15]) (.cond 4 .skip (.seq (.reg [ZA 16 (.bin .eql 3 (.c (.str [73,78]))),ZM 4 16]) (.cond 4 .skip (.seq (.reg [ZA 17 (.bin .eql 3 (.c (.str [73,83]))),ZM 4 17]) (.cond 4 .skip (.seq (.reg [ZA 18 (.bin .eql 3 (.c (.str [78,85,76,76]))),ZM 4 18]) (.cond 4 .skip (.seq (.reg [ZA 19 (.bin .eql 3 (.c (.str [67,79,85,78,84]))),ZM 4 19]) (.cond 4 .skip (.seq (.reg [ZA 20 (.bin .eql 3 (.c (.str [77,73,78]))),ZM 4 20]) (.cond 4 .skip (.reg [ZA 21 (.bin .eql 3 (.c (.str [77,65,88]))),ZM 4 21]))))))))))))))))))))))))))))))))) (.cond 4 (.seq (.reg [ZA 2 ZT0]) .ret) .skip)))) (.seq (.reg [ZA 2 ZF0]) .ret)))⟩
theorem p196:prepF Tryz.prog 196=some c196:=by kernel_rfl
def c197:F:=⟨9, [(.tmp 2)],(.seq (.reg [ZA 2 ZF0]) (.seq (.reg [ZM 3 0,ZA 4 (.bin .geq 3 (.c (.e (.v (.int .u8 48))))),ZM 5 4,ZT 6 5 (.mov 0),ZT 7 5 (.bin .leq 6 (.c (.e (.v (.int .u8 57))))),ZA 8 (.pick 5 7 (.c (.bool false))),ZM 2 8]) .ret))⟩
theorem p197:prepF Tryz.prog 197=some c197:=by kernel_rfl
def c232:F:=⟨17, [(.tmp 2)],(.seq (.reg [ZA 2 ZF0]) (.seq (.reg [ZM 3 0,ZA 4 (.bin .geq 3 (.c (.e (.v (.int .u8 65))))),ZM 5 4,ZT 6 5 (.mov 0),ZT 7 5 (.bin .leq 6 (.c (.e (.v (.int .u8 90))))),ZA 8 (.pick 5 7 (.c (.bool false))),ZM 9 8,ZF 10 9 (.mov 0),ZF 11 9 (.bin .geq 10 (.c (.e (.v (.int .u8 97))))),ZF 12 9 (.mov 11),ZT 13 12 (.mov 0),ZT 14 12 (.bin .leq 13 (.c (.e (.v (.int .u8 122))))),ZF 15 9 (.pick 12 14 (.c (.bool false))),ZA 16 (.pick 9 (.c (.bool true)) 15),ZM 2 16]) .ret))⟩
theorem p232:prepF Tryz.prog 232=some c232:=by kernel_rfl
def c233:F:=⟨9, [(.tmp 2)],(.seq (.reg [ZA 2 ZF0]) (.seq (.reg [ZM 3 0,ZA 4 (.bin .geq 3 (.c (.e (.v (.int .u8 48))))),ZM 5 4,ZT 6 5 (.mov 0),ZT 7 5 (.bin .leq 6 (.c (.e (.v (.int .u8 57))))),ZA 8 (.pick 5 7 (.c (.bool false))),ZM 2 8]) .ret))⟩
theorem p233:prepF Tryz.prog 233=some c233:=by kernel_rfl
end Go.Proofs.YtfplalbognalkaaGreat.Ab
/- The code of the functions, in the small language: rows of values. -/
namespace Go.Proofs.YtfplalbognalkaaGreat.Ab
open Go
def c210:F:=⟨12, [(.tmp 4)],(.seq (.reg [ZA 4 (.mov (.c (.int 0)))]) (.seq (.reg [ZM 5 1,ZM 6 0,ZA 7 (.lenl 6),ZA 8 (.bin .sub 5 7),ZM 1 8]) (.seq (.seq (.reg [ZM 9 1,ZA 10 (.bin .lss 9 (.c (.int 0)))]) (.cond 10 (.seq (.reg [ZA 4 (.mov (.c (.int (-1))))]) .ret) .skip)) (.seq (.reg [ZM 11 1,ZM 4 11]) .ret))))⟩
theorem p210:prepF Tryz.prog 210=some c210:=by kernel_rfl
def c215:F:=⟨23, [(.tmp 2)],(.seq (.reg [ZA 2 (.mov (.c .zs))]) (.seq (.reg [ZM 5 0,ZA 6 (.lenl 5),ZA 7 (.mks [(.bool false),(.int 0)] 6),ZM 3 7]) (.seq (.seq (.reg [ZA 4 (.mov (.c (.int 0)))]) (.block 0 (.loop (.seq (.seq (.reg [ZM 8 4,ZM 9 0,ZA 10 (.lenl 9),ZA 11 (.bin .lss 8 10)]) (.cond 11 .skip (.exit 0))) (.seq (.block 1 (.reg [ZM 14 3,ZM 15 4,ZM 16 0,ZM 17 4,ZA 18 (.iadr none 2 16 17),ZA 19 (.load true 2 18),ZC 20 235 [19],ZA 21 (.iadr none 2 14 15),ZN (.store true 2 21 20)])) (.reg [ZM 12 4,ZA 13 (.bin .add 12 (.c (.int 1))),ZM 4 13])))))) (.seq (.reg [ZM 22 3,ZM 2 22]) .ret))))⟩
theorem p215:prepF Tryz.prog 215=some c215:=by kernel_rfl
def c53:F:=⟨27, [(.tmp 4)],(.seq (.reg [ZA 4 ZF0]) (.seq (.seq (.reg [ZM 6 0,ZA 7 (.lenl 6),ZM 8 1,ZA 9 (.lenl 8),ZA 10 (.bin .neq 7 9)]) (.cond 10 (.seq (.reg [ZA 4 ZF0]) .ret) .skip)) (.seq (.seq (.reg [ZA 5 (.mov (.c (.int 0)))]) (.block 0 (.loop (.seq (.seq (.reg [ZM 11 5,ZM 12 0,ZA 13 (.lenl 12),ZA 14 (.bin .lss 11 13)]) (.cond 14 .skip (.exit 0))) (.seq (.block 1 (.seq (.dreg [⟨ZM 17 0, [], [0]⟩,⟨ZM 18 5, [0], [5]⟩,⟨ZA 19 (.iadr none 2 17 18), [], [17,18]⟩,⟨ZA 20 (.load true 2 19), [], [19]⟩,⟨ZM 21 1, [0,1,2,3], [1]⟩,⟨ZM 22 5, [0,1,2,3,4], [5]⟩,⟨ZA 23 (.iadr none 2 21 22), [0,1,2,3], [21,22]⟩,⟨ZA 24 (.load true 2 23), [0,1,2,3], [23]⟩,⟨ZC 25 121 [20,24], [], [20,24]⟩,⟨ZA 26 (.un .not 25), [], [25]⟩]) (.cond 26 (.seq (.reg [ZA 4 ZF0]) .ret) .skip))) (.reg [ZM 15 5,ZA 16 (.bin .add 15 (.c (.int 1))),ZM 5 16])))))) (.seq (.reg [ZA 4 ZT0]) .ret))))⟩
theorem p53:prepF Tryz.prog 53=some c53:=by kernel_rfl
end Go.Proofs.YtfplalbognalkaaGreat.Ab
/- The code of the functions, in the small language. -/
namespace Go.Proofs.YtfplalbognalkaaGreat.Ab
open Go
theorem ok235 (b:Bool) (v:Int):Plain Tryz.prog 235 [dVal b v] (dVal b v):=okOf mixed p235 fun A P hA hP=>(by
 cbv
 repeat' first | exact W1 | refine WA ?_ ?_ | with_reducible intro hcc | refine WS ?_ | refine W6 ?_ | ((with_reducible first | refine hA.Sto ?_ fun ds hds=>?_);rotate_left;cbv) | refine WL ?_ | fail
 all_goals try simp only [hA.sm,n_cast] at *
 )
theorem ok121 (b:Bool) (v:Int) (b':Bool) (v':Int):Plain Tryz.prog 121 [dVal b v,dVal b' v'] (.bool (decide (b=b'/\v=v'))):=okOf mixed p121 fun A P hA hP=>(by
 cbv
 repeat' first | exact W1 | refine WA ?_ ?_ | with_reducible intro hcc | refine WS ?_ | refine W6 ?_ | refine WL ?_ | fail
 all_goals try simp only [hA.sm,n_cast] at *
 all_goals (cases b <;>cases b' <;>by_cases h:v=v' <;>simp_all))
end Go.Proofs.YtfplalbognalkaaGreat.Ab
/- And, or. -/
namespace Go.Proofs.YtfplalbognalkaaGreat.Ab
open Go
def tr (b:Bool) (v:Int):Int:=if b then 1 else if v=0 then 0 else 2
end Go.Proofs.YtfplalbognalkaaGreat.Ab
/- Comparison of values. -/
namespace Go.Proofs.YtfplalbognalkaaGreat.Ab
open Go
def hol (op a b:Int):Bool:=(decide (a=b)&&(decide (op=1) || decide (op=4) || decide (op=6))) || (decide (a<b)&&(decide (op=2) || decide (op=3) || decide (op=4))) || (decide (b<a)&&(decide (op=2) || decide (op=5) || decide (op=6)))
def cm (op:Int) (b:Bool) (v:Int) (b':Bool) (v':Int):Int:=if b=true\/b'=true\/op<1\/6<op then 1 else if hol op v v'=true then 2 else 0
end Go.Proofs.YtfplalbognalkaaGreat.Ab
/- Comparison of values, the program's. -/
namespace Go.Proofs.YtfplalbognalkaaGreat.Ab
open Go
end Go.Proofs.YtfplalbognalkaaGreat.Ab
/- Rows of values: sizes. -/
namespace Go.Proofs.YtfplalbognalkaaGreat.Ab
open Go
theorem ok210 (es:List (List E)) (left:Int) (h:0<=left/\left<=1048576):Plain Tryz.prog 210 [.e (.sl es),.int left] (.int (if left-es.length<0 then-1 else left-es.length)):=okOf mixed p210 fun A P hA hP=>(by
 obtain ⟨r,hr⟩: ∃r:Int,r=if left-es.length<0 then-1 else left-es.length:=⟨_,rfl⟩
 rw [<-hr]
 cbv
 repeat' first | exact W1 | refine WA ?_ ?_ | with_reducible intro hcc | refine WS ?_ | refine W6 ?_ | ((with_reducible first | refine hA.Len fun z hz hb=>?_);cbv) | refine WL ?_ | fail
 all_goals try simp only [hA.sm,n_cast] at *
 all_goals grind)
end Go.Proofs.YtfplalbognalkaaGreat.Ab
/- Loops, and buffers that are handed on. -/
namespace Go.Proofs.YtfplalbognalkaaGreat.Ab
open Go
def subL:List (Nat×D)->List (Nat×D)->Prop
 | [],_=>True
 | (t,d)::r,env=>look t env=some d/\subL r env
theorem look_subL: ∀ {env' env:List (Nat×D)} {t:Nat} {d:D},subL env' env->look t env'=some d->look t env=some d
 | [],_,_,_,_,h=>by simp [look] at h
 | (k,x)::r,env,t,d,⟨h1,h2⟩,h=>by
  simp only [look] at h
  split at h
  ·rename_i e;subst e;cases h;exact h1
  ·exact look_subL h2 h
theorem Weak.trans {h0:Hp} {a b c:St} (x:Weak h0 a b) (y:Weak h0 b c):Weak h0 a c:=by
 intro w G hi
 obtain ⟨G1,i1,e1,r1⟩:=x w G hi
 obtain ⟨G2,i2,e2,r2⟩:=y w G1 i1
 refine ⟨G2,i2,fun w0 G0 e=>e2 _ _ (e1 _ _ e),fun t d' h=>?_⟩
 obtain ⟨d1,h1,q1⟩:=r2 t d' h
 obtain ⟨d0,h0,q0⟩:=r1 t d1 h1
 exact ⟨d0,h0,fun v r=>q1 v (q0 v r)⟩
theorem Weak.keep {h0:Hp} {env env':List (Nat×D)} {hp:List O} (h:subL env' env):Weak h0 ⟨env,hp⟩ ⟨env',hp⟩:=
 fun _ G hi=>⟨G,hi,fun _ _ e=>e,fun _ d' hl=>⟨d',look_subL h hl,fun _ r=>r⟩⟩
def freeL:List (Nat×D)->Bool
 | []=>true
 | (_,d)::r=>d.free&&freeL r
theorem look_free: ∀ {env:List (Nat×D)} {t:Nat} {d:D},freeL env=true->look t env=some d->d.free=true
 | [],_,_,_,h=>by simp [look] at h
 | (k,x)::r,t,d,hf,h=>by
  simp only [freeL,Bool.and_eq_true] at hf
  simp only [look] at h
  split at h
  ·cases h;exact hf.1
  ·exact look_free hf.2 h
theorem Weak.gc {env env':List (Nat×D)} {hp:List O} (h:subL env' env) (hf:freeL env'=true):Weak (hpF []) ⟨env,hp⟩ ⟨env', []⟩:=by
 intro w G hi
 refine ⟨G,inv_nil hi,fun w0 G0 e=>?_,fun t d' hl=>⟨d',look_subL h hl,fun x r=>r.free (look_free hf hl) rfl rfl⟩⟩
 simp only [hpF_nil] at e ⊢
 exact ⟨e.os,e.tape,e.output,e.size,e.pub,fun i ds h=>by simp at h,fun i n k h=>by simp at h,e.others,fun i h=>by simp [O.has] at h,e.pubnew,fun i b k ds h=>by simp at h,fun i h=>by simp at h,fun i l h=>by simp at h,e.sgm,fun i m h=>by simp at h,fun i R h=>by simp at h,fun i R h=>by simp at h,fun i m h=>by simp at h,fun _=>e.sgn fun i m h=>by simp at h,e.sgw⟩
theorem Ar.Ok.loopI {A:Ar} (hA:A.Ok) {h0:Hp} {body:(St->Prop)->St->Prop} {s:St} (I:Nat->St->Prop) (n0:Nat) (s0:St) (hw:Weak h0 s s0) (hi:I n0 s0)
  (step: ∀n s K,I n s->(∀s1 m s',m<n->Weak h0 s1 s'->I m s'->K s1)->body K s):A.loop h0 body s:=
 hA.loop _ _ _ ⟨I,⟨n0,s0,hw,hi⟩,fun n s hI=>step n s _ hI fun s1 m s' h1 h2 h3=>⟨m,s',h1,h2,h3⟩⟩
theorem rv_e {w G h} {x:Value} {d:E} (r:Rv w G h x (.e d)):RvE w G x d:=by
 cases r with | e r=>exact r
theorem fin_bs {l:List O} {i n k:Nat} {es:List (List E)} (hb:hpF l i= .box (es.flatten.map .e)) (hn:es.length=n) (hk: ∀e∈es,e.length=k):FinW l (.bs i 0 n k) (.e (.sl es)):=by
 intro w G v hi hr
 have hfl:es.flatten.length=n * k:=by rw [flatten_len hk,hn]
 obtain ⟨hnp,cs,T,hc,hcl,hcr⟩:=hi.box i _ hb
 have hlt:G.blk i<w.heap.size:=hi.lt i (by rw [hb];rfl)
 refine ⟨⟨fun b' o'=>G.pub b' o'\/(b'=G.blk i/\o'<n * k),G.blk,G.sg,G.rv,G.rb⟩,?_,?_,fun w0 G0 e=>?_⟩
 ·cases hr with
  | bs hb' hcap hl hm=>
   rename_i cap ds b o
   rw [hb] at hb'
   cases hb'
   refine .e ?_
   rcases hl with h0 | ⟨rfl,rfl,hsz⟩
   ·have:es= []:=List.length_eq_zero_iff.1 (by omega)
    subst this
    exact .sl (fun _=>undef) hn hcap hm hk (fun j hj=>by rw [h0] at hj;simp at hj) (fun j d hd=>by simp at hd)
   ·refine .sl (k:=k) (fun j=>cs.getD j undef) hn hcap hm hk (fun j hj=>?_) (fun j d hd=>?_)
    ·have hjc:j<cs.size:=by rw [hcl,List.length_map,hfl];exact hj
     rw [Nat.zero_add]
     exact ⟨.inr ⟨rfl,hj⟩,by simp [World.cell?,hc,hjc]⟩
    ·have hj:j<cs.size:=by rw [hcl,List.length_map];exact (List.getElem?_eq_some_iff.1 hd).1
     have:=(hcr j cs[j] (.e d) (by simp [hj]) (by rw [List.getElem?_map,hd];rfl)).1
     have hg:cs.getD j undef=cs[j]:=by simp [Array.getD,hj]
     rw [hg]
     exact (rv_e this).mono (G':=⟨fun b' o'=>G.pub b' o'\/(b'=G.blk i/\o'<n * k),G.blk,G.sg,G.rv,G.rb⟩) (fun _ _ p=>⟨Or.inl p,rfl⟩) fun _ _ e=>e
 ·rw [hpF_nil]
  refine ⟨fun i h=>by simp [O.has] at h,fun i j h=>by simp [O.has] at h,fun b o p=>?_,fun i ds e=>by simp at e,fun i n k e=>by simp at e,fun i b k ds e=>by simp at e,fun i l e=>by simp at e,⟨fun j b e=>⟨(hi.x.sgs j b e).1,(fun i h=>by simp [O.has] at h),(hi.x.sgs j b e).2.2⟩,hi.x.sgi,fun i m e=>by simp at e,fun i j m m' e=>by simp at e,fun i R e=>by simp at e⟩⟩
  rcases p with p | ⟨rfl,_⟩
  ·exact hi.publt b o p
  ·exact hlt
 ·rw [hpF_nil] at e ⊢
  refine ⟨e.os,e.tape,e.output,e.size,fun b o p=>⟨Or.inl (e.pub b o p).1,(e.pub b o p).2⟩,fun i ds h=>by simp at h,fun i n k h=>by simp at h,e.others,fun i h=>by simp [O.has] at h,fun b o p=>?_,fun i b k ds h=>by simp at h,fun i h=>by simp at h,fun i l h=>by simp at h,e.sgm,fun i m h=>by simp at h,fun i R h=>by simp at h,fun i R h=>by simp at h,fun i m h=>by simp at h,fun _=>e.sgn fun i m h=>by simp at h,e.sgw⟩
  rcases p with p | ⟨rfl,_⟩
  ·exact e.pubnew b o p
  ·rcases e.new i (by rw [hb];rfl) with ⟨_,h,_⟩ | h
   ·simp [O.has] at h
   ·exact .inr (.inl h)
theorem Ar.Ok.fin_bs {A:Ar} (h:A.Ok) {l:List O} {i n k:Nat} {es:List (List E)} (hb:hpF l i= .box (es.flatten.map .e)) (hn:es.length=n) (hk: ∀e∈es,e.length=k):A.fin l (.bs i 0 n k) (.e (.sl es)):=
 h.fin _ _ _ fun _=>Ab.fin_bs hb hn hk
end Go.Proofs.YtfplalbognalkaaGreat.Ab
/- Rows of values: alike. -/
namespace Go.Proofs.YtfplalbognalkaaGreat.Ab
open Go
abbrev vr (p:Bool×Int):List E:= [E.bool p.1,E.int p.2]
theorem row_val {l:List (Bool×Int)} {es:List (List E)} (he:es=l.map vr) {n:Int} (h:0<=n/\n<es.length): ∃p,es.getD n.toNat []=vr p/\l[n.toNat]?=some p:=by
 subst he
 have hn:n.toNat<l.length:=by simp at h;omega
 exact ⟨l[n.toNat],by simp [List.getD,hn],by simp [hn]⟩
theorem ok53 (l l':List (Bool×Int)) (es fs:List (List E)) (he:es=l.map vr) (hf:fs=l'.map vr):Plain Tryz.prog 53 [.e (.sl es),.e (.sl fs)] (.bool (decide (l=l'))):=okOf mixed p53 fun A P hA hP=>(by
 obtain ⟨r,hr⟩: ∃r:Bool,r=decide (l=l'):=⟨_,rfl⟩
 rw [<-hr]
 have hl1:es.length=l.length:=by rw [he];simp
 have hl2:fs.length=l'.length:=by rw [hf];simp
 cbv
 repeat' first | exact W1 | refine WA ?_ ?_ | with_reducible intro hcc | refine WS ?_ | ((with_reducible first | refine callK_f hA hP (ok121 _ _ _ _) ?_ ?_ ?_);exact rfl;exact rfl;cbv) | refine W6 ?_ | ((with_reducible first | refine hA.Len fun z hz hb=>?_ | refine hA.Off fun b hb=>?_);cbv) | ((with_reducible first | refine hA.Sapp ?_ fun sl hsl=>?_);rotate_left;cbv) | refine WL ?_ | fail
 all_goals try simp only [hA.sm,n_cast] at *
 ·have:l≠l':=fun e=>by subst e;grind
  rw [hr];simp [this]
 ·have hzz:es.length=fs.length:=by grind
  refine hA.loopI (fun n s=> ∃i:Int,0<=i/\n+i=l.length/\(∀j:Nat,j<i->l[j]?=l'[j]?)/\s=⟨[(5,.int i),(4,.bool false),(0,.e (.sl es)),(1,.e (.sl fs))], []⟩) l.length _ (Weak.keep (env':= [(5,.int 0),(4,.bool false),(0,.e (.sl es)),(1,.e (.sl fs))]) ⟨rfl,rfl,rfl,rfl,trivial⟩) ⟨0,by omega,by omega,fun j hj=>by omega,rfl⟩ ?_
  rintro n s K ⟨i,h0,h1,h2,rfl⟩ hK
  cbv
  repeat' first | exact W1 | refine WA ?_ ?_ | with_reducible intro hcc | refine WS ?_ | ((with_reducible first | refine callK_f hA hP (ok121 _ _ _ _) ?_ ?_ ?_);exact rfl;exact rfl;cbv) | ((with_reducible refine hA.row es _ _ ?_);have hin:(0:Int)<=i/\i<es.length:=(by simp only [hA.lt,decide_eq_true_eq,n_cast] at *;omega);obtain ⟨⟨b1,v1⟩,e1,q1⟩:=row_val he hin;refine ⟨hin,fun row hrow=>?_⟩;rw [e1] at hrow;subst hrow;cbv) | ((with_reducible refine hA.row fs _ _ ?_);have hin:(0:Int)<=i/\i<fs.length:=(by simp only [hA.lt,decide_eq_true_eq,n_cast] at *;omega);obtain ⟨⟨b2,v2⟩,e2,q2⟩:=row_val hf hin;refine ⟨hin,fun row hrow=>?_⟩;rw [e2] at hrow;subst hrow;cbv) | refine W6 ?_ | ((with_reducible first | refine hA.Len fun z hz hb=>?_ | refine hA.Off fun b hb=>?_);cbv) | ((with_reducible first | refine hA.Sapp ?_ fun sl hsl=>?_);rotate_left;cbv) | refine WL ?_ | fail
  all_goals try simp only [hA.sm,n_cast] at *
  ·have hne:l≠l':=fun e=>by
    subst e
    rw [q1] at q2
    simp only [Option.some.injEq,Prod.mk.injEq] at q2
    simp_all
   rw [hr];simp [hne]
  ·have:=hb trivial trivial trivial
   omega
  ·have hbv:b1=b2/\v1=v2:=by grind
   refine hK _ (n-1) _ (by omega) (Weak.keep (env':= [(5,.int (i+1)),(4,.bool false),(0,.e (.sl es)),(1,.e (.sl fs))]) ⟨rfl,rfl,rfl,rfl,trivial⟩) ⟨i+1,by omega,by omega,fun j hj=>?_,rfl⟩
   by_cases hji:(j:Int)<i
   ·exact h2 j hji
   ·have:j=i.toNat:=by omega
    rw [this,q1,q2,hbv.1,hbv.2]
  ·have hll:l=l':=by
    refine List.ext_getElem? fun j=>?_
    by_cases hj:(j:Int)<i
    ·exact h2 j hj
    ·rw [List.getElem?_eq_none (by grind),List.getElem?_eq_none (by grind)]
   rw [hr];simp [hll])
end Go.Proofs.YtfplalbognalkaaGreat.Ab
/- Rows of values: copied. -/
namespace Go.Proofs.YtfplalbognalkaaGreat.Ab
open Go
theorem buf_set {k:Nat} (hk0:0<k) {xs:List (List E)} (h: ∀e∈xs,e.length=k) {i:Nat} (hi:i<xs.length) {r:List E} (hr:r.length=k):
  (xs.flatten.map D.e).take (i * k)++r.map D.e++(xs.flatten.map D.e).drop (i * k+k)=(xs.set i r).flatten.map D.e:=by
 have:=fill_flat hk0 [(i,r)] xs h (by simpa using ⟨hr,hi⟩)
 simp only [List.map_cons,List.map_nil,fillD,fillE,List.length_map,hr] at this
 exact this
theorem buf_zero (n:Nat) (zs:List E):(List.replicate n (zs.map D.e)).flatten=(List.replicate n zs).flatten.map D.e:=by
 induction n with
 | zero=>rfl
 | succ n ih=>rw [List.replicate_succ,List.replicate_succ,List.flatten_cons,List.flatten_cons,List.map_append,ih]
theorem ok215 (l:List (Bool×Int)) (es:List (List E)) (he:es=l.map vr) (hlen:es.length<=1048576):Plain Tryz.prog 215 [.e (.sl es)] (.e (.sl es)):=okOf mixed p215 fun A P hA hP=>(by
 have hl1:es.length=l.length:=by rw [he];simp
 have hes: ∀e∈es,e.length=2:=by
  rw [he]
  intro e h
  obtain ⟨p,_,rfl⟩:=List.mem_map.1 h
  rfl
 cbv
 repeat' first | exact W1 | refine WA ?_ ?_ | with_reducible intro hcc | refine WS ?_ | ((with_reducible first | refine callK_f hA hP (ok235 _ _) ?_ ?_ ?_);exact rfl;exact rfl;cbv) | refine W6 ?_ | ((with_reducible first | refine hA.Len fun z hz hb=>?_ | refine hA.Off fun b hb=>?_ | refine hA.Rep fun ds m hds hm=>?_);cbv) | ((with_reducible first | refine hA.Sto ?_ fun ds hds=>?_ | refine hA.Sapp ?_ fun sl hsl=>?_);rotate_left;cbv) | refine WL ?_ | fail
 all_goals try simp only [hA.sm,n_cast] at *
 ·omega
 ·omega
 ·refine hA.loopI (fun n s=> ∃(i:Int) (xs:List (List E)),0<=i/\n+i=es.length/\xs.length=es.length/\(∀e∈xs,e.length=2)/\(∀j:Nat,j<i->xs[j]?=es[j]?)/\
    s=⟨[(4,.int i),(3,.bs 0 0 m 2),(2,.zs),(0,.e (.sl es))], [.box (xs.flatten.map .e)]⟩) es.length _
   (Weak.keep (env':= [(4,.int 0),(3,.bs 0 0 m 2),(2,.zs),(0,.e (.sl es))]) ⟨rfl,rfl,rfl,rfl,trivial⟩)
   ⟨0,List.replicate m [E.bool false,E.int 0],by omega,by omega,by simp;omega,by simp,fun j hj=>by omega,by rw [<-buf_zero,hm];rw [hds];rfl⟩ ?_
  rintro n s K ⟨i,xs,h0,h1,h2,h3,h4,rfl⟩ hK
  obtain ⟨ys,hys⟩: ∃ys,ys=xs.flatten.map D.e:=⟨_,rfl⟩
  rw [<-hys]
  cbv
  repeat' first | exact W1 | refine WA ?_ ?_ | with_reducible intro hcc | refine WS ?_ | ((with_reducible first | refine callK_f hA hP (ok235 _ _) ?_ ?_ ?_);exact rfl;exact rfl;cbv) | ((with_reducible refine hA.fin_bs (es:=es) ?_ ?_ hes)) | ((with_reducible refine hA.row es _ _ ?_);have hin:(0:Int)<=i/\i<es.length:=(by simp only [hA.lt,decide_eq_true_eq,n_cast] at *;omega);obtain ⟨⟨b1,v1⟩,e1,q1⟩:=row_val he hin;refine ⟨hin,fun row hrow=>?_⟩;rw [e1] at hrow;subst hrow;cbv) | refine W6 ?_ | ((with_reducible first | refine hA.Len fun z hz hb=>?_ | refine hA.Off fun b hb=>?_ | refine hA.Rep fun ds m hds hm=>?_);cbv) | ((with_reducible first | refine hA.Sto ?_ fun ds hds=>?_ | refine hA.Sapp ?_ fun sl hsl=>?_);rotate_left;cbv) | refine WL ?_ | fail
  all_goals try simp only [hA.sm,n_cast] at *
  ·exact h0
  ·show i<(m:Int)
   omega
  ·omega
  ·have hb':b=i.toNat * 2:=by omega
   have hrow:es[i.toNat]?=some [E.bool b1,E.int v1]:=by
    have:i.toNat<es.length:=by omega
    rw [<-e1];simp [List.getD,this]
   refine hK _ (n-1) _ (by omega) (Weak.keep (env':= [(4,.int (i+1)),(3,.bs 0 0 m 2),(2,.zs),(0,.e (.sl es))]) ⟨rfl,rfl,rfl,rfl,trivial⟩)
    ⟨i+1,xs.set i.toNat [E.bool b1,E.int v1],by omega,by omega,by simp [h2],?_,fun j hj=>?_,?_⟩
   ·intro e h
    rcases List.mem_or_eq_of_mem_set h with h | rfl
    ·exact h3 e h
    ·rfl
   ·by_cases hji:(j:Int)<i
    ·rw [List.getElem?_set_ne (show i.toNat≠j by omega)];exact h4 j hji
    ·have:j=i.toNat:=by omega
     subst this
     rw [List.getElem?_set_self (show i.toNat<xs.length by omega),hrow]
   ·congr 2
    rw [hds,hys,hb']
    congr 1
    exact buf_set (k:=2) (by omega) h3 (i:=i.toNat) (show i.toNat<xs.length by omega) (r:= [E.bool b1,E.int v1]) rfl
  ·have:ys.length=xs.length * 2:=by rw [hys,List.length_map,flatten_len h3]
   omega
  ·have hxe:xs=es:=by
    refine List.ext_getElem? fun j=>?_
    by_cases hj:(j:Int)<i
    ·exact h4 j hj
    ·rw [List.getElem?_eq_none (by grind),List.getElem?_eq_none (by grind)]
   rw [hys,hxe];rfl
  ·omega)
end Go.Proofs.YtfplalbognalkaaGreat.Ab
/- Things in memory under other numbers: calls that are handed things that are still written, and states taken for less. -/
namespace Go.Proofs.YtfplalbognalkaaGreat.Ab
open Go
mutual
def D.ren (t:Nat->Nat):D->D
 | .agg ds=> .agg (rens t ds)
 | .own i es=> .own (t i) es
 | .bs i off n k=> .bs (t i) off n k
 | .ref i off=> .ref (t i) off
 | .refs i off=> .refs (t i) off
 | .tup ds=> .tup (rens t ds)
 | .when g d=> .when g (d.ren t)
 | .fn f a b=> .fn f (rens t a) (rens t b)
 | .vec i n k=> .vec (t i) n k
 | .vref i off=> .vref (t i) off
 | .mp i=> .mp (t i)
 | .rv i=> .rv (t i)
 | d=>d
def rens (t:Nat->Nat):List D->List D
 | []=> []
 | d::r=>d.ren t::rens t r
end
mutual
def D.lt (m:Nat):D->Bool
 | .agg ds=>lts m ds
 | .own i _ | .bs i _ _ _ | .ref i _ | .refs i _ | .vec i _ _ | .vref i _ | .mp i | .rv i=>decide (i<m)
 | .tup ds=>lts m ds
 | .when _ d=>d.lt m
 | .fn _ a b=>lts m a&&lts m b
 | _=>true
def lts (m:Nat):List D->Bool
 | []=>true
 | d::r=>d.lt m&&lts m r
end
def O.ren (t:Nat->Nat):O->O
 | .box ds=> .box (rens t ds)
 | .vec b k ds=> .vec b k (rens t ds)
 | o=>o
def O.lt (m:Nat):O->Bool
 | .box ds=>lts m ds
 | .vec _ _ ds=>lts m ds
 | _=>true
theorem rens_len (t:Nat->Nat): ∀ds:List D,(rens t ds).length=ds.length
 | []=>rfl
 | _::r=>by rw [rens,List.length_cons,List.length_cons,rens_len t r]
theorem rens_get (t:Nat->Nat): ∀(ds:List D) (j:Nat),(rens t ds)[j]?=(ds[j]?).map (D.ren t)
 | [],j=>by simp [rens]
 | d::r,0=>by simp [rens]
 | d::r,j+1=>by simp [rens,rens_get t r j]
theorem lts_get {m:Nat} : ∀ {ds:List D} {j:Nat} {d:D},lts m ds=true->ds[j]?=some d->d.lt m=true
 | [],j,d,_,h=>by simp at h
 | x::r,0,d,h,e=>by simp [lts] at h;simp at e;subst e;exact h.1
 | x::r,j+1,d,h,e=>by simp [lts] at h;exact lts_get h.2 (by simpa using e)
theorem O.ren_has (t:Nat->Nat) (o:O):(o.ren t).has=o.has:=by cases o <;>rfl
theorem ren_box {t:Nat->Nat} {o:O} {ds:List D} (h:o.ren t= .box ds): ∃ds0,o= .box ds0/\ds=rens t ds0:=by
 cases o <;>simp [O.ren] at h
 exact ⟨_,rfl,h.symm⟩
theorem ren_front {t:Nat->Nat} {o:O} {n k:Nat} (h:o.ren t= .front n k):o= .front n k:=by
 cases o <;>simp [O.ren] at h
 rw [h.1,h.2]
theorem ren_smap {t:Nat->Nat} {o:O} {l:List (List UInt8×E)} (h:o.ren t= .smap l):o= .smap l:=by
 cases o <;>simp [O.ren] at h
 rw [h]
theorem ren_res {t:Nat->Nat} {o:O} {R:World->Value->List Nat->Prop} (h:o.ren t= .res R):o= .res R:=by
 cases o <;>simp [O.ren] at h
 rw [h]
theorem ren_ids {t:Nat->Nat} {o:O} {m:Nat} (h:o.ren t= .ids m):o= .ids m:=by
 cases o <;>simp [O.ren] at h
 rw [h]
theorem ren_gone {t:Nat->Nat} {o:O} (h:o.ren t= .gone):o= .gone:=by
 cases o <;>simp [O.ren] at h
 rfl
theorem ren_vec {t:Nat->Nat} {o:O} {b:Bool} {k:Nat} {ds:List D} (h:o.ren t= .vec b k ds): ∃ds0,o= .vec b k ds0/\ds=rens t ds0:=by
 cases o <;>simp [O.ren] at h
 obtain ⟨rfl,rfl,rfl⟩:=h
 exact ⟨_,rfl,rfl⟩
theorem rens_e (t:Nat->Nat) (xs:List E):rens t (xs.map .e)=xs.map .e:=by
 induction xs with
 | nil=>rfl
 | cons x xs ih=>simp [rens,ih,D.ren]
theorem lts_e (m:Nat) (xs:List E):lts m (xs.map .e)=true:=by
 induction xs with
 | nil=>rfl
 | cons x xs ih=>simp [lts,ih,D.lt]
theorem Rv.ren {w:World} {G G2:Gh} {h h2:Hp} {t:Nat->Nat} (hp:G2.pub=G.pub) (hs:G2.sg=G.sg) (H: ∀i,h i≠ .dead->h2 (t i)=(h i).ren t/\G2.blk (t i)=G.blk i/\G2.rv (t i)=G.rv i) {v:Value} {d:D} (r:Rv w G h v d):Rv w G2 h2 v (d.ren t):=by
 have mv: ∀ {x d},RvE w G x d->RvE w G2 x d:=fun h=>h.mono (fun b o p=>⟨by rw [hp];exact p,rfl⟩) fun j b e=>by rw [hs];exact e
 induction r with
 | e h=>exact .e (mv h)
 | agg hl h1 _ ih=>
  refine .agg (by rw [rens_len];exact hl) h1 fun j c d hc hd=>?_
  rw [rens_get] at hd
  obtain ⟨d0,h0,rfl⟩:=Option.map_eq_some_iff.1 hd
  exact ih j c d0 hc h0
 | own hx hk ht=>
  obtain ⟨N,e,l,t1⟩:=ht
  obtain ⟨e2,b2,b3⟩:=H _ (by rw [e];simp)
  rw [e] at e2
  refine .own (mv hx) hk ⟨N,e2,l,fun q=>?_⟩
  rcases t1 q with t1 | ⟨t0,cap,cs,T,fr,t1,t2,t3⟩
  ·exact .inl t1
  ·exact .inr ⟨t0,cap,cs,T,fr,by rw [b2];exact t1,by rw [b2];exact t2,t3⟩
 | zs ha=>exact .zs ha
 | bs hb hc hl hm=>
  obtain ⟨e2,b2,b3⟩:=H _ (by rw [hb];simp)
  rw [hb] at e2
  exact .bs e2 hc (by rw [rens_len,b2];exact hl) hm
 | rp u hu hr=>exact .rp u (by rw [hp];exact hu) fun j d hj=>mv (hr j d hj)
 | ref hb=>
  obtain ⟨e2,b2,b3⟩:=H _ (by rw [hb];simp)
  rw [hb] at e2
  rw [<-b2]
  exact .ref e2
 | refs hb=>
  obtain ⟨e2,b2,b3⟩:=H _ (by rw [hb];simp)
  rw [hb] at e2
  rw [<-b2]
  exact .refs e2
 | tup hl _ ih=>
  refine .tup (by rw [rens_len];exact hl) fun j c d hc hd=>?_
  rw [rens_get] at hd
  obtain ⟨d0,h0,rfl⟩:=Option.map_eq_some_iff.1 hd
  exact ih j c d0 hc h0
 | when _ hu ih=>exact .when ih hu
 | fn hl _ hl' _ ih ih'=>
  refine .fn (by rw [rens_len];exact hl) (fun j c d hc hd=>?_) (by rw [rens_len];exact hl') (fun j c d hc hd=>?_)
  ·rw [rens_get] at hd
   obtain ⟨d0,h0,rfl⟩:=Option.map_eq_some_iff.1 hd
   exact ih j c d0 hc h0
  ·rw [rens_get] at hd
   obtain ⟨d0,h0,rfl⟩:=Option.map_eq_some_iff.1 hd
   exact ih' j c d0 hc h0
 | @vec i n k a cap hd hm hc hv=>
  obtain ⟨e2,b2,b3⟩:=H _ hd
  refine .vec (by rw [e2];cases hh:h i <;>simp_all [O.ren]) hm hc fun b k' ds e=>?_
  rw [e2] at e
  cases hh:h i with
  | vec b0 k0 ds0=>
   rw [hh] at e
   simp only [O.ren,O.vec.injEq] at e
   obtain ⟨rfl,rfl,rfl⟩:=e
   obtain ⟨q1,q2,q3,q4⟩:=hv _ _ _ hh
   refine ⟨q1,by rw [rens_len];exact q2,q3,fun hb=>?_⟩
   rw [b2];exact q4 hb
  | _=>rw [hh] at e;simp [O.ren] at e
 | @vref i off x hd hv=>
  obtain ⟨e2,b2,b3⟩:=H _ hd
  refine .vref (by rw [e2];cases hh:h i <;>simp_all [O.ren]) fun b k ds e=>?_
  rw [e2] at e
  cases hh:h i with
  | vec b0 k0 ds0=>
   rw [hh] at e
   simp only [O.ren,O.vec.injEq] at e
   obtain ⟨rfl,rfl,rfl⟩:=e
   obtain ⟨q1,q2⟩:=hv _ _ _ hh
   exact ⟨q1,by rw [b2];exact q2⟩
  | _=>rw [hh] at e;simp [O.ren] at e
 | mp hb=>
  obtain ⟨e2,b2,b3⟩:=H _ (by rw [hb];simp)
  rw [hb] at e2
  rw [<-b2]
  exact .mp e2
 | rv hb hc=>
  obtain ⟨e2,b2,b3⟩:=H _ (by rw [hb];simp)
  rw [hb] at e2
  rw [<-b3]
  exact .rv e2 (by rw [b3];exact hc)
 | e0=>exact .e0
 | any=>exact .any
theorem Rv.unren {w:World} {G G2:Gh} {h h2:Hp} {t:Nat->Nat} {m:Nat} (hp:G2.pub=G.pub) (hs:G2.sg=G.sg) (H: ∀i,i<m->h2 (t i)=(h i).ren t/\G2.blk (t i)=G.blk i/\G2.rv (t i)=G.rv i) {v:Value} {d':D} (r:Rv w G2 h2 v d'):
  ∀d:D,d'=d.ren t->d.lt m=true->Rv w G h v d:=by
 have mv: ∀ {x d},RvE w G2 x d->RvE w G x d:=fun h=>h.mono (fun b o p=>⟨by rw [<-hp];exact p,rfl⟩) fun j b e=>by rw [<-hs];exact e
 induction r with
 | e h=>intro d e hl;cases d <;>simp [D.ren] at e;subst e;exact .e (mv h)
 | agg hs h1 _ ih=>
  intro d e hl
  cases d <;>simp [D.ren] at e
  subst e
  refine .agg (by rw [hs,rens_len]) h1 fun j c d0 hc hd=>ih j c (d0.ren t) hc (by rw [rens_get,hd];rfl) d0 rfl (lts_get (by simpa [D.lt] using hl) hd)
 | own hx hk ht=>
  intro d e hl
  cases d <;>try (simp [D.ren] at e;done)
  rename_i i es
  simp only [D.ren,D.own.injEq] at e
  obtain ⟨rfl,rfl⟩:=e
  obtain ⟨N,e,l,t1⟩:=ht
  obtain ⟨e2,b2,b3⟩:=H i (by simpa [D.lt] using hl)
  rw [e] at e2
  have e3:=ren_front e2.symm
  refine .own (mv hx) hk ⟨N,e3,l,fun q=>?_⟩
  rcases t1 q with t1 | ⟨t0,cap,cs,T,fr,t1,t2,t3⟩
  ·exact .inl t1
  ·exact .inr ⟨t0,cap,cs,T,fr,by rw [<-b2];exact t1,by rw [<-b2];exact t2,t3⟩
 | zs ha=>intro d e hl;cases d <;>simp [D.ren] at e;exact .zs ha
 | bs hb hc hll hm=>
  intro d e hl
  cases d <;>try (simp [D.ren] at e;done)
  rename_i i off n k
  simp only [D.ren,D.bs.injEq] at e
  obtain ⟨rfl,rfl,rfl,rfl⟩:=e
  obtain ⟨e2,b2,b3⟩:=H i (by simpa [D.lt] using hl)
  rw [hb] at e2
  cases hh:h i <;>rw [hh] at e2 <;>simp [O.ren] at e2
  subst e2
  exact .bs hh hc (by rw [rens_len,b2] at hll;exact hll) hm
 | rp u hu hr=>intro d e hl;cases d <;>simp [D.ren] at e;subst e;exact .rp u (by rw [<-hp];exact hu) fun j d hj=>mv (hr j d hj)
 | ref hb=>
  intro d e hl
  cases d <;>try (simp [D.ren] at e;done)
  rename_i i off
  simp only [D.ren,D.ref.injEq] at e
  obtain ⟨rfl,rfl⟩:=e
  obtain ⟨e2,b2,b3⟩:=H i (by simpa [D.lt] using hl)
  rw [hb] at e2
  cases hh:h i <;>rw [hh] at e2 <;>simp [O.ren] at e2
  rw [b2]
  exact .ref hh
 | refs hb=>
  intro d e hl
  cases d <;>try (simp [D.ren] at e;done)
  rename_i i off
  simp only [D.ren,D.refs.injEq] at e
  obtain ⟨rfl,rfl⟩:=e
  obtain ⟨e2,b2,b3⟩:=H i (by simpa [D.lt] using hl)
  rw [hb] at e2
  cases hh:h i <;>rw [hh] at e2 <;>simp [O.ren] at e2
  rw [b2]
  exact .refs hh
 | tup hs _ ih=>
  intro d e hl
  cases d <;>simp [D.ren] at e
  subst e
  refine .tup (by rw [hs,rens_len]) fun j c d0 hc hd=>ih j c (d0.ren t) hc (by rw [rens_get,hd];rfl) d0 rfl (lts_get (by simpa [D.lt] using hl) hd)
 | when _ hu ih=>
  intro d e hl
  cases d <;>simp [D.ren] at e
  obtain ⟨rfl,rfl⟩:=e
  exact .when (fun hg=>ih hg _ rfl (by simpa [D.lt] using hl)) hu
 | fn hs _ hs' _ ih ih'=>
  intro d e hl
  cases d <;>simp [D.ren] at e
  obtain ⟨rfl,rfl,rfl⟩:=e
  simp only [D.lt,Bool.and_eq_true] at hl
  exact .fn (by rw [hs,rens_len]) (fun j c d0 hc hd=>ih j c (d0.ren t) hc (by rw [rens_get,hd];rfl) d0 rfl (lts_get hl.1 hd)) (by rw [hs',rens_len])
   (fun j c d0 hc hd=>ih' j c (d0.ren t) hc (by rw [rens_get,hd];rfl) d0 rfl (lts_get hl.2 hd))
 | vec hd hm hc hv=>
  intro d e hl
  cases d <;>try (simp [D.ren] at e;done)
  rename_i i n k
  simp only [D.ren,D.vec.injEq] at e
  obtain ⟨rfl,rfl,rfl⟩:=e
  obtain ⟨e2,b2,b3⟩:=H i (by simpa [D.lt] using hl)
  refine .vec (fun h0=>hd (by rw [e2,h0];rfl)) hm hc fun b k' ds e=>?_
  rw [e] at e2
  obtain ⟨q1,q2,q3,q4⟩:=hv _ _ _ e2
  refine ⟨q1,by rw [rens_len] at q2;exact q2,q3,fun hb=>?_⟩
  rw [<-b2];exact q4 hb
 | vref hd hv=>
  intro d e hl
  cases d <;>try (simp [D.ren] at e;done)
  rename_i i off
  simp only [D.ren,D.vref.injEq] at e
  obtain ⟨rfl,rfl⟩:=e
  obtain ⟨e2,b2,b3⟩:=H i (by simpa [D.lt] using hl)
  refine .vref (fun h0=>hd (by rw [e2,h0];rfl)) fun b k ds e=>?_
  rw [e] at e2
  obtain ⟨q1,q2⟩:=hv _ _ _ e2
  exact ⟨q1,by rw [<-b2];exact q2⟩
 | mp hb=>
  intro d e hl
  cases d <;>try (simp [D.ren] at e;done)
  rename_i i
  simp only [D.ren,D.mp.injEq] at e
  subst e
  obtain ⟨e2,b2,b3⟩:=H i (by simpa [D.lt] using hl)
  rw [hb] at e2
  rw [b2]
  exact .mp (ren_smap e2.symm)
 | rv hb hc=>
  intro d e hl
  cases d <;>try (simp [D.ren] at e;done)
  rename_i i
  simp only [D.ren,D.rv.injEq] at e
  subst e
  obtain ⟨e2,b2,b3⟩:=H i (by simpa [D.lt] using hl)
  rw [hb] at e2
  rw [b3] at hc ⊢
  exact .rv (ren_res e2.symm) hc
 | e0=>intro d e hl;cases d <;>simp [D.ren] at e;exact .e0
 | any=>intro d e hl;cases d <;>simp [D.ren] at e;exact .any
theorem inv_ren {w:World} {G:Gh} {h:Hp} {l:List O} {t:Nat->Nat} (hi:Inv w G h) (inj: ∀i j,i<l.length->j<l.length->t i=t j->i=j)
  (H: ∀i,i<l.length->h (t i)=(hpF l i).ren t) (hlt: ∀o∈l,o.lt l.length=true):Inv w (G.re t) (hpF l):=by
 have hlen: ∀i,hpF l i≠ .dead->i<l.length:=fun i hd=>by
  rcases Nat.lt_or_ge i l.length with q | q
  ·exact q
  ·exact absurd (hpF_ge q) hd
 have hhas: ∀i,(hpF l i).has=true->i<l.length/\(h (t i)).has=true:=fun i hh=>by
  have:=hlen i (fun e=>by rw [e] at hh;simp [O.has] at hh)
  exact ⟨this,by rw [H i this,O.ren_has];exact hh⟩
 have hmem: ∀i,i<l.length->hpF l i∈l:=fun i hi=>by simp [hpF,List.getD,hi]
 have un: ∀ {v d},Rv w G h v (d.ren t)->d.lt l.length=true->Rv w (G.re t) (hpF l) v d:=fun r hl=>Rv.unren (G2:=G) (G:=(G.re t)) (m:=l.length) rfl rfl (fun i hi=>⟨H i hi,rfl,rfl⟩) r _ rfl hl
 refine ⟨fun i hh=>hi.lt _ (hhas i hh).2,fun i j p q e=>inj i j (hhas i p).1 (hhas j q).1 (hi.inj _ _ (hhas i p).2 (hhas j q).2 e),hi.publt,fun i ds e=>?_,fun i n k e h0=>?_,fun i b k ds e=>?_,fun i l e=>?_,⟨fun j b e=>⟨(hi.x.sgs j b e).1,fun i hh=>(hi.x.sgs j b e).2.1 _ (hhas i hh).2,(hi.x.sgs j b e).2.2⟩,hi.x.sgi,fun i m e=>?_,fun i j m m' e e'=>?_,fun i R e=>?_⟩⟩
 ·have hil:=hlen i (by rw [e];simp)
  have e2:=H i hil
  rw [e] at e2
  obtain ⟨p1,cs,T,p2,p3,p4⟩:=hi.box _ _ e2
  have hl:=hlt _ (hmem i hil)
  rw [e] at hl
  refine ⟨p1,cs,T,p2,by rw [p3,rens_len],fun j c d hc hd=>?_⟩
  obtain ⟨q1,q2⟩:=p4 j c (d.ren t) hc (by rw [rens_get,hd];rfl)
  exact ⟨un q1 (lts_get hl hd),q2⟩
 ·have hil:=hlen i (by rw [e];simp)
  have e2:=H i hil
  rw [e] at e2
  exact hi.front _ _ _ e2 h0
 ·have hil:=hlen i (by rw [e];simp)
  have e2:=H i hil
  rw [e] at e2
  have hl:=hlt _ (hmem i hil)
  rw [e] at hl
  obtain ⟨p0,p⟩:=hi.vec _ _ _ _ e2
  refine ⟨fun hb=>?_,fun hb=>?_⟩
  ·have:=p0 hb
   cases ds with
   | nil=>rfl
   | cons _ _=>simp [rens] at this
  obtain ⟨p1,cs,T,p2,p3,p4⟩:=p hb
  refine ⟨p1,cs,T,p2,by rw [rens_len] at p3;exact p3,fun j c d hc hd=>?_⟩
  obtain ⟨q1,q2⟩:=p4 j c (d.ren t) hc (by rw [rens_get,hd];rfl)
  exact ⟨un q1 (lts_get hl hd),q2⟩
 ·have hil:=hlen i (by rw [e];simp)
  have e2:=H i hil
  rw [e] at e2
  obtain ⟨p1,es,ck,p2,p3,p4⟩:=hi.smap _ _ e2
  exact ⟨p1,es,ck,p2,p3,fun j e p a b=>⟨(p4 j e p a b).1,RvE.mono (w:=w) (w':=w) (G:=G) (G':=G.re t) (fun _ _ p=>⟨p,rfl⟩) (fun _ _ e=>e) (p4 j e p a b).2⟩⟩
 ·have hil:=hlen i (by rw [e];simp)
  have e2:=H i hil
  rw [e] at e2
  exact hi.x.ids _ _ e2
 ·have hil:=hlen i (by rw [e];simp)
  have hjl:=hlen j (by rw [e'];simp)
  have e2:=H i hil
  have e3:=H j hjl
  rw [e] at e2
  rw [e'] at e3
  exact inj i j hil hjl (hi.x.idu _ _ _ _ e2 e3)
 ·have hil:=hlen i (by rw [e];simp)
  have e2:=H i hil
  rw [e] at e2
  obtain ⟨a,c⟩:=hi.x.res _ _ e2
  refine ⟨a,fun b hb=>?_⟩
  obtain ⟨c1,c2,c3,c4,c5⟩:=c b hb
  refine ⟨c1,c2,c3,fun j hh=>c4 _ (hhas j hh).2,fun j R' e' hb'=>?_⟩
  have hjl:=hlen j (by rw [e'];simp)
  have e3:=H j hjl
  rw [e'] at e3
  exact inj i j hil hjl (c5 _ _ e3 hb')
theorem ext_ren {w w0:World} {G G0:Gh} {h h0:Hp} {l:List O} {t:Nat->Nat} (H: ∀i,i<l.length->h (t i)=(hpF l i).ren t) (hf: ∀i,h0 i≠ .dead->t i=i/\i<l.length)
  (e:Ext w0 G0 h0 w G h):Ext w0 G0 h0 w (G.re t) (hpF l) where
 os:=e.os
 tape:=e.tape
 output:=e.output
 size:=e.size
 pub:=e.pub
 box:=fun i ds q=>by
  obtain ⟨e1,e2⟩:=hf i (by rw [q];simp)
  obtain ⟨⟨ds',q1,q2⟩,q3⟩:=e.box i ds q
  have:=H i e2
  rw [e1,q1] at this
  obtain ⟨ds0,r1,r2⟩:=ren_box this.symm
  exact ⟨⟨ds0,r1,by rw [<-q2,r2,rens_len]⟩,by show G.blk (t i)=_;rw [e1];exact q3⟩
 tok:=fun i n k q=>by
  obtain ⟨e1,e2⟩:=hf i (by rw [q];simp)
  obtain ⟨n',q1,q2,q3⟩:=e.tok i n k q
  have:=H i e2
  rw [e1,q1] at this
  exact ⟨n',ren_front this.symm,q2,by show _->_->G.blk (t i)=_/\_;rw [e1];exact q3⟩
 others:=e.others
 new:=fun i hi=>by
  have hil:i<l.length:=by
   rcases Nat.lt_or_ge i l.length with q | q
   ·exact q
   ·rw [hpF_ge q] at hi;simp [O.has] at hi
  exact e.new (t i) (by rw [H i hil,O.ren_has];exact hi)
 pubnew:=e.pubnew
 vec:=fun i b k ds q=>by
  obtain ⟨e1,e2⟩:=hf i (by rw [q];simp)
  have:=H i e2
  rcases e.vec i b k ds q with q1 | ⟨ds',q1,q2,q3⟩
  ·rw [e1,q1] at this
   exact .inl (ren_gone this.symm)
  ·rw [e1,q1] at this
   obtain ⟨ds0,r1,r2⟩:=ren_vec this.symm
   exact .inr ⟨ds0,r1,by rw [r2,rens_len] at q2;exact q2,by show _->G.blk (t i)=_/\_;rw [e1];exact q3⟩
 gone:=fun i q=>by
  obtain ⟨e1,e2⟩:=hf i (by rw [q];simp)
  have:=H i e2
  rw [e1,e.gone i q] at this
  exact ren_gone this.symm
 smap:=fun i l q=>by
  obtain ⟨e1,e2⟩:=hf i (by rw [q];simp)
  have:=H i e2
  obtain ⟨⟨l',q1⟩,q2⟩:=e.smap i l q
  rw [e1,q1] at this
  exact ⟨⟨l',ren_smap this.symm⟩,by show G.blk (t i)=_;rw [e1];exact q2⟩
 sgm:=e.sgm
 idm:=fun i m q=>by
  obtain ⟨e1,e2⟩:=hf i (by rw [q];simp)
  have:=H i e2
  obtain ⟨m',q1⟩:=e.idm i m q
  rw [e1,q1] at this
  exact ⟨m',ren_ids this.symm⟩
 rvm:=fun i R q=>by
  obtain ⟨e1,e2⟩:=hf i (by rw [q];simp)
  have:=H i e2
  obtain ⟨⟨l',q1⟩,q2⟩:=e.rvm i R q
  rw [e1,q1] at this
  exact ⟨⟨l',ren_res this.symm⟩,by show G.rv (t i)=_;rw [e1];exact q2⟩
 rbnew:=fun i R q b hb=>by
  have hil:i<l.length:=by
   rcases Nat.lt_or_ge i l.length with q' | q'
   ·exact q'
   ·rw [hpF_ge q'] at q;simp at q
  have:=H i hil
  rw [q] at this
  exact e.rbnew _ _ this b hb
 idn:=fun i m q=>by
  have hil:i<l.length:=by
   rcases Nat.lt_or_ge i l.length with q' | q'
   ·exact q'
   ·rw [hpF_ge q'] at q;simp at q
  have:=H i hil
  rw [q] at this
  exact e.idn _ _ this
 sgn:=e.sgn
 sgw:=e.sgw
end Go.Proofs.YtfplalbognalkaaGreat.Ab
/- Calls that are handed things that are still written; states taken for less, under new numbers. -/
namespace Go.Proofs.YtfplalbognalkaaGreat.Ab
open Go
section
open Classical in
noncomputable def blkOf {α:Type} (n:Nat) (t:Nat->Nat) (B Bc:Nat->α):Nat->α:=fun j=>if h: ∃i,i<n/\t i=j then Bc h.choose else B j
theorem blkOf_in {α:Type} {n:Nat} {t:Nat->Nat} {B Bc:Nat->α} (inj: ∀i j,i<n->j<n->t i=t j->i=j) {i:Nat} (hi:i<n):blkOf n t B Bc (t i)=Bc i:=by
 have h: ∃i',i'<n/\t i'=t i:=⟨i,hi,rfl⟩
 unfold blkOf
 rw [dif_pos h]
 rw [inj _ _ h.choose_spec.1 hi h.choose_spec.2]
theorem blkOf_out {α:Type} {n:Nat} {t:Nat->Nat} {B Bc:Nat->α} {j:Nat} (h: ∀i,i<n->t i≠j):blkOf n t B Bc j=B j:=by
 unfold blkOf
 rw [dif_neg (fun ⟨i,a,b⟩=>h i a b)]
end
noncomputable def Gh.beh (G Gc:Gh) (n:Nat) (t:Nat->Nat):Gh:=⟨Gc.pub,blkOf n t G.blk Gc.blk,Gc.sg,blkOf n t G.rv Gc.rv,blkOf n t G.rb Gc.rb⟩
theorem frame_call {w w':World} {G Gc:Gh} {h h':Hp} {l0 l:List O} {t:Nat->Nat} (hi:Inv w G h)
  (inj: ∀i j,i<l.length->j<l.length->t i=t j->i=j) (hle:l0.length<=l.length)
  (hpre: ∀i,i<l0.length->h (t i)=(hpF l0 i).ren t) (hnew: ∀i,l0.length<=i->i<l.length->h (t i)= .dead)
  (h1: ∀i,i<l.length->h' (t i)=(hpF l i).ren t) (h2: ∀j,(∀i,i<l.length->t i≠j)->h' j=h j)
  (hi1:Inv w' Gc (hpF l)) (he:Ext w (G.re t) (hpF l0) w' Gc (hpF l)):
  Inv w' (G.beh Gc l.length t) h'/\Ext w G h w' (G.beh Gc l.length t) h':=by
 have bin: ∀i,i<l.length->blkOf l.length t G.blk Gc.blk (t i)=Gc.blk i:=fun i q=>blkOf_in inj q
 have bout: ∀j,(∀i,i<l.length->t i≠j)->blkOf l.length t G.blk Gc.blk j=G.blk j:=fun j q=>blkOf_out q
 have part: ∀j,(∃i,i<l.length/\t i=j)\/ ∀i,i<l.length->t i≠j:=fun j=>by
  by_cases q: ∃i,i<l.length/\t i=j
  ·exact .inl q
  ·exact .inr fun i a b=>q ⟨i,a,b⟩
 have has0: ∀i,(hpF l0 i).has=true->i<l0.length/\(h (t i)).has=true:=fun i hh=>by
  rcases Nat.lt_or_ge i l0.length with q | q
  ·exact ⟨q,by rw [hpre i q,O.ren_has];exact hh⟩
  ·rw [hpF_ge q] at hh;simp [O.has] at hh
 have hasl: ∀i,(hpF l i).has=true->i<l.length:=fun i hh=>by
  rcases Nat.lt_or_ge i l.length with q | q
  ·exact q
  ·rw [hpF_ge q] at hh;simp [O.has] at hh
 have res0: ∀i R,hpF l0 i= .res R->i<l0.length/\h (t i)= .res R:=fun i R e=>by
  rcases Nat.lt_or_ge i l0.length with q | q
  ·exact ⟨q,by rw [hpre i q,e];rfl⟩
  ·rw [hpF_ge q] at e;cases e
 have ids0: ∀i m,hpF l0 i= .ids m->i<l0.length/\h (t i)= .ids m:=fun i m e=>by
  rcases Nat.lt_or_ge i l0.length with q | q
  ·exact ⟨q,by rw [hpre i q,e];rfl⟩
  ·rw [hpF_ge q] at e;cases e
 have rin: ∀i,i<l.length->blkOf l.length t G.rv Gc.rv (t i)=Gc.rv i:=fun i q=>blkOf_in inj q
 have rout: ∀j,(∀i,i<l.length->t i≠j)->blkOf l.length t G.rv Gc.rv j=G.rv j:=fun j q=>blkOf_out q
 have sin: ∀i,i<l.length->blkOf l.length t G.rb Gc.rb (t i)=Gc.rb i:=fun i q=>blkOf_in inj q
 have sout: ∀j,(∀i,i<l.length->t i≠j)->blkOf l.length t G.rb Gc.rb j=G.rb j:=fun j q=>blkOf_out q
 have row: ∀j,(∀i,i<l.length->t i≠j)->(h j).has=true->w'.heap[G.blk j]?=w.heap[G.blk j]?:=fun j hj hh=>
  he.others _ (hi.lt j hh) (fun i hi0=>fun eb=>by
   obtain ⟨q1,q2⟩:=has0 i hi0
   exact hj i (by omega) (hi.inj _ _ q2 hh eb)) fun i R e hb=>by
    obtain ⟨q1,q2⟩:=res0 i R e
    exact ((hi.x.res _ _ q2).2 _ hb).2.2.2.1 j hh rfl
 have apart: ∀i j,i<l.length->(hpF l i).has=true->(∀i,i<l.length->t i≠j)->(h j).has=true->Gc.blk i≠G.blk j:=fun i j hil hh hj hhj eb=>by
  rcases he.new i hh with ⟨i0,q1,q2⟩ | q
  ·obtain ⟨q3,q4⟩:=has0 i0 q1
   exact hj i0 (by omega) (hi.inj _ _ q4 hhj (q2.symm.trans eb))
  ·have:=hi.lt j hhj;omega
 have old: ∀i,i<l.length->h (t i)≠ .dead->i<l0.length:=fun i a b=>by
  rcases Nat.lt_or_ge i l0.length with q | q
  ·exact q
  ·exact absurd (hnew i q a) b
 have ext:Ext w G h w' (G.beh Gc l.length t) h':= {
  os:=he.os
  tape:=he.tape
  output:=he.output
  size:=he.size
  pub:=he.pub
  box:=fun j ds e=>by
   rcases part j with ⟨i,hil,rfl⟩ | hj
   ·have hi0:=old i hil (by rw [e];simp)
    obtain ⟨ds0,e0,rfl⟩:=ren_box ((hpre i hi0).symm.trans e)
    obtain ⟨⟨ds',q1,q2⟩,q3⟩:=he.box i ds0 e0
    have q4:=h1 i hil
    rw [q1] at q4
    exact ⟨⟨_,q4,by rw [rens_len,rens_len];exact q2⟩,(bin i hil).trans q3⟩
   ·exact ⟨⟨ds,by rw [h2 j hj,e],rfl⟩,bout j hj⟩
  tok:=fun j n k e=>by
   rcases part j with ⟨i,hil,rfl⟩ | hj
   ·have hi0:=old i hil (by rw [e];simp)
    have e0:=ren_front ((hpre i hi0).symm.trans e)
    obtain ⟨n',q1,q2,q3⟩:=he.tok i n k e0
    have q4:=h1 i hil
    rw [q1] at q4
    exact ⟨n',q4,q2,fun a b=>⟨(bin i hil).trans (q3 a b).1,(q3 a b).2⟩⟩
   ·exact ⟨n,by rw [h2 j hj,e],Nat.le_refl _,fun _ h0=>⟨bout j hj,by simp only [World.shape?];rw [row j hj (by rw [e];simp [O.has,h0])]⟩⟩
  others:=fun b hb ho hq=>he.others b hb (fun i hi0=>ho (t i) (has0 i hi0).2) fun i R e=>hq (t i) R (res0 i R e).2
  sgm:=he.sgm
  idm:=fun j m e=>by
   rcases part j with ⟨i,hil,rfl⟩ | hj
   ·have hi0:=old i hil (by rw [e];simp)
    have e0:=ren_ids ((hpre i hi0).symm.trans e)
    obtain ⟨m',q1⟩:=he.idm i m e0
    have q4:=h1 i hil
    rw [q1] at q4
    exact ⟨m',q4⟩
   ·exact ⟨m,by rw [h2 j hj,e]⟩
  rvm:=fun j R e=>by
   rcases part j with ⟨i,hil,rfl⟩ | hj
   ·have hi0:=old i hil (by rw [e];simp)
    have e0:=ren_res ((hpre i hi0).symm.trans e)
    obtain ⟨⟨R',q1⟩,q3⟩:=he.rvm i R e0
    have q4:=h1 i hil
    rw [q1] at q4
    exact ⟨⟨R',q4⟩,(rin i hil).trans q3⟩
   ·exact ⟨⟨R,by rw [h2 j hj,e]⟩,rout j hj⟩
  rbnew:=fun j R e b hb=>by
   rcases part j with ⟨i,hil,rfl⟩ | hj
   ·have e0:=ren_res ((h1 i hil).symm.trans e)
    have hb:b∈blkOf l.length t G.rb Gc.rb (t i):=hb
    rw [sin i hil] at hb
    rcases he.rbnew i R e0 b hb with ⟨i0,R',q1,q2⟩ | q
    ·exact .inl ⟨t i0,R',(res0 i0 R' q1).2,q2⟩
    ·exact .inr q
   ·have hb:b∈blkOf l.length t G.rb Gc.rb j:=hb
    rw [sout j hj] at hb
    exact .inl ⟨j,R,by rw [<-h2 j hj];exact e,hb⟩
  idn:=fun j m e=>by
   rcases part j with ⟨i,hil,rfl⟩ | hj
   ·have e0:=ren_ids ((h1 i hil).symm.trans e)
    obtain ⟨i',m',q⟩:=he.idn i m e0
    exact ⟨t i',m',(ids0 i' m' q).2⟩
   ·exact ⟨j,m,by rw [<-h2 j hj];exact e⟩
  sgn:=fun hn=>he.sgn fun i m e=>hn (t i) m (ids0 i m e).2
  sgw:=fun j b e=>by
   rcases he.sgw j b e with q | q | ⟨i,q1,q2⟩
   ·exact .inl q
   ·exact .inr (.inl q)
   ·exact .inr (.inr ⟨t i,(has0 i q1).2,q2⟩)
  new:=fun j hj=>by
   rcases part j with ⟨i,hil,rfl⟩ | hj'
   ·rw [h1 i hil,O.ren_has] at hj
    rcases he.new i hj with ⟨i0,q1,q2⟩ | q
    ·exact .inl ⟨t i0,(has0 i0 q1).2,(bin i hil).trans q2⟩
    ·exact .inr (by show _<=blkOf _ _ _ _ (t i);rw [bin i hil];exact q)
   ·rw [h2 j hj'] at hj
    exact .inl ⟨j,hj,bout j hj'⟩
  pubnew:=fun b o p=>by
   rcases he.pubnew b o p with q | q | ⟨i,q1,q2⟩
   ·exact .inl q
   ·exact .inr (.inl q)
   ·exact .inr (.inr ⟨t i,(has0 i q1).2,q2⟩)
  vec:=fun j b k ds e=>by
   rcases part j with ⟨i,hil,rfl⟩ | hj
   ·have hi0:=old i hil (by rw [e];simp)
    obtain ⟨ds0,e0,rfl⟩:=ren_vec ((hpre i hi0).symm.trans e)
    have q4:=h1 i hil
    rcases he.vec i b k ds0 e0 with q1 | ⟨ds',q1,q2,q3⟩
    ·rw [q1] at q4;exact .inl q4
    ·rw [q1] at q4;exact .inr ⟨_,q4,by rw [rens_len,rens_len];exact q2,fun hb=>⟨(bin i hil).trans (q3 hb).1,(q3 hb).2⟩⟩
   ·exact .inr ⟨ds,by rw [h2 j hj,e],Nat.le_refl _,fun hb=>⟨bout j hj,by simp only [World.shape?];rw [row j hj (by rw [e];exact hb)]⟩⟩
  gone:=fun j e=>by
   rcases part j with ⟨i,hil,rfl⟩ | hj
   ·have hi0:=old i hil (by rw [e];simp)
    have e0:=ren_gone ((hpre i hi0).symm.trans e)
    have q4:=h1 i hil
    rw [he.gone i e0] at q4
    exact q4
   ·rw [h2 j hj,e]
  smap:=fun j l' e=>by
   rcases part j with ⟨i,hil,rfl⟩ | hj
   ·have hi0:=old i hil (by rw [e];simp)
    have e0:=ren_smap ((hpre i hi0).symm.trans e)
    obtain ⟨⟨l2,q1⟩,q3⟩:=he.smap i l' e0
    have q4:=h1 i hil
    rw [q1] at q4
    exact ⟨⟨l2,q4⟩,(bin i hil).trans q3⟩
   ·exact ⟨⟨l',by rw [h2 j hj,e]⟩,bout j hj⟩}
 have rn: ∀ {v d},Rv w' Gc (hpF l) v d->Rv w' (G.beh Gc l.length t) h' v (d.ren t):=fun r=>Rv.ren (G:=Gc) (h:=hpF l) (G2:=(G.beh Gc l.length t)) (h2:=h') rfl rfl (r:=r) fun i hd=>by
  have hil:i<l.length:=by
   rcases Nat.lt_or_ge i l.length with q | q
   ·exact q
   ·exact absurd (hpF_ge q) hd
  exact ⟨h1 i hil,bin i hil,rin i hil⟩
 have X:XOk w' (G.beh Gc l.length t) h':=by
  refine ⟨fun j b e=>?_,hi1.x.sgi,fun j m e=>?_,fun a b m m' e e'=>?_,fun j R e=>?_⟩
  ·obtain ⟨a,c,c'⟩:=hi1.x.sgs j b e
   refine ⟨a,fun k hk=>?_,c'⟩
   rcases part k with ⟨i,hil,rfl⟩ | hk'
   ·rw [h1 i hil,O.ren_has] at hk
    show blkOf _ _ _ _ (t i)≠_
    rw [bin i hil]
    exact c i hk
   ·rw [h2 k hk'] at hk
    show blkOf _ _ _ _ k≠_
    rw [bout k hk']
    rcases he.sgw j b e with q | q | ⟨i0,q1,q2⟩
    ·exact (hi.x.sgs j b q).2.1 k hk
    ·have:=hi.lt k hk;omega
    ·obtain ⟨q3,q4⟩:=has0 i0 q1
     intro eb
     exact hk' i0 (by omega) (hi.inj _ _ q4 hk (q2.trans eb.symm))
  ·rcases part j with ⟨i,hil,rfl⟩ | hj
   ·exact hi1.x.ids i m (ren_ids ((h1 i hil).symm.trans e))
   ·have e0:h j= .ids m:=by rw [<-h2 j hj];exact e
    have:=he.sgn fun i0 m0 e1=>by
     obtain ⟨q1,q2⟩:=ids0 i0 m0 e1
     exact hj i0 (by omega) (hi.x.idu _ _ _ _ q2 e0)
    show∀k,m<=k->Gc.sg k=none
    rw [this]
    exact hi.x.ids j m e0
  ·have tok: ∀k m0,h' k= .ids m0-> ∃m1,h k= .ids m1\/ ∃i,i<l.length/\t i=k/\hpF l i= .ids m0:=fun k m0 q=>by
    rcases part k with ⟨i,hil,rfl⟩ | hk
    ·exact ⟨m0,.inr ⟨i,hil,rfl,ren_ids ((h1 i hil).symm.trans q)⟩⟩
    ·exact ⟨m0,.inl (by rw [<-h2 k hk];exact q)⟩
   rcases part a with ⟨i,hil,rfl⟩ | ha
   ·have q1:=ren_ids ((h1 i hil).symm.trans e)
    rcases part b with ⟨k,hkl,rfl⟩ | hb
    ·rw [hi1.x.idu i k m m' q1 (ren_ids ((h1 k hkl).symm.trans e'))]
    ·obtain ⟨i',m2,q2⟩:=he.idn i m q1
     obtain ⟨q3,q4⟩:=ids0 i' m2 q2
     exact absurd (hi.x.idu _ _ _ _ q4 ((h2 b hb).symm.trans e')) (hb i' (by omega))
   ·have q0:h a= .ids m:=(h2 a ha).symm.trans e
    rcases part b with ⟨k,hkl,rfl⟩ | hb
    ·obtain ⟨i',m2,q2⟩:=he.idn k m' (ren_ids ((h1 k hkl).symm.trans e'))
     obtain ⟨q3,q4⟩:=ids0 i' m2 q2
     exact absurd (hi.x.idu _ _ _ _ q4 q0) (ha i' (by omega))
    ·exact hi.x.idu _ _ _ _ q0 ((h2 b hb).symm.trans e')
  ·rcases part j with ⟨i,hil,rfl⟩ | hj
   ·obtain ⟨a,c⟩:=hi1.x.res i R (ren_res ((h1 i hil).symm.trans e))
    show (∀w2:World,(∀b∈blkOf l.length t G.rb Gc.rb (t i),w2.heap[b]?=w'.heap[b]?)->R w2 (blkOf l.length t G.rv Gc.rv (t i)) (blkOf l.length t G.rb Gc.rb (t i)))/\ ∀b∈blkOf l.length t G.rb Gc.rb (t i),_
    rw [rin i hil,sin i hil]
    refine ⟨a,fun b hb=>?_⟩
    obtain ⟨c1,c2,c3,c4,c5⟩:=c b hb
    have old2:(∃i0 R',hpF l0 i0= .res R'/\b∈G.rb (t i0))\/w.heap.size<=b:=he.rbnew i R (ren_res ((h1 i hil).symm.trans e)) b hb
    refine ⟨c1,c2,c3,fun k hk=>?_,fun k R' ek hbk=>?_⟩
    ·rcases part k with ⟨i2,hil2,rfl⟩ | hk'
     ·rw [h1 i2 hil2,O.ren_has] at hk
      show blkOf _ _ _ _ (t i2)≠_
      rw [bin i2 hil2]
      exact c4 i2 hk
     ·rw [h2 k hk'] at hk
      show blkOf _ _ _ _ k≠_
      rw [bout k hk']
      rcases old2 with ⟨i0,R0,q1,q2⟩ | q
      ·exact ((hi.x.res _ _ (res0 i0 R0 q1).2).2 b q2).2.2.2.1 k hk
      ·have:=hi.lt k hk;omega
    ·have hbk:b∈blkOf l.length t G.rb Gc.rb k:=hbk
     rcases part k with ⟨i2,hil2,rfl⟩ | hk'
     ·rw [sin i2 hil2] at hbk
      rw [c5 i2 R' (ren_res ((h1 i2 hil2).symm.trans ek)) hbk]
     ·rw [sout k hk'] at hbk
      have ek2:h k= .res R':=(h2 k hk').symm.trans ek
      rcases old2 with ⟨i0,R0,q1,q2⟩ | q
      ·obtain ⟨r1,r2⟩:=res0 i0 R0 q1
       exact absurd (((hi.x.res _ _ r2).2 b q2).2.2.2.2 k R' ek2 hbk) (hk' i0 (by omega))
      ·have:=((hi.x.res _ _ ek2).2 b hbk).1;omega
   ·have e0:h j= .res R:=(h2 j hj).symm.trans e
    obtain ⟨a,c⟩:=hi.x.res j R e0
    show (∀w2:World,(∀b∈blkOf l.length t G.rb Gc.rb j,w2.heap[b]?=w'.heap[b]?)->R w2 (blkOf l.length t G.rv Gc.rv j) (blkOf l.length t G.rb Gc.rb j))/\ ∀b∈blkOf l.length t G.rb Gc.rb j,_
    rw [rout j hj,sout j hj]
    have nr: ∀b∈G.rb j,∀i0 R0,hpF l0 i0= .res R0->b∉G.rb (t i0):=fun b hb i0 R0 q hq=>by
     obtain ⟨r1,r2⟩:=res0 i0 R0 q
     exact hj i0 (by omega) ((c b hb).2.2.2.2 _ _ r2 hq).symm
    refine ⟨fun w2 hw=>a w2 fun b hb=>?_,fun b hb=>?_⟩
    ·obtain ⟨c1,c2,c3,c4,c5⟩:=c b hb
     rw [hw b hb]
     exact he.others b c1 (fun i0 q=>c4 _ (has0 i0 q).2) fun i0 R0 q=>nr b hb i0 R0 q
    ·obtain ⟨c1,c2,c3,c4,c5⟩:=c b hb
     refine ⟨Nat.lt_of_lt_of_le c1 he.size,fun o p=>?_,fun k c' q eq=>?_,fun k hk=>?_,fun k R' ek hbk=>?_⟩
     ·rcases he.pubnew b o p with q | q | ⟨i0,q1,q2⟩
      ·exact c2 o q
      ·omega
      ·exact c4 _ (has0 i0 q1).2 q2
     ·rcases he.sgw k c' q with q | q | ⟨i0,q1,q2⟩
      ·exact c3 k c' q eq
      ·omega
      ·exact c4 _ (has0 i0 q1).2 (q2.trans eq)
     ·rcases part k with ⟨i2,hil2,rfl⟩ | hk'
      ·rw [h1 i2 hil2,O.ren_has] at hk
       show blkOf _ _ _ _ (t i2)≠_
       rw [bin i2 hil2]
       rcases he.new i2 hk with ⟨i0,q1,q2⟩ | q
       ·rw [q2];exact c4 _ (has0 i0 q1).2
       ·omega
      ·rw [h2 k hk'] at hk
       show blkOf _ _ _ _ k≠_
       rw [bout k hk']
       exact c4 k hk
     ·have hbk:b∈blkOf l.length t G.rb Gc.rb k:=hbk
      rcases part k with ⟨i2,hil2,rfl⟩ | hk'
      ·rw [sin i2 hil2] at hbk
       rcases he.rbnew i2 R' (ren_res ((h1 i2 hil2).symm.trans ek)) b hbk with ⟨i0,R0,q1,q2⟩ | q
       ·exact absurd q2 (nr b hb i0 R0 q1)
       ·omega
      ·rw [sout k hk'] at hbk
       exact c5 k R' ((h2 k hk').symm.trans ek) hbk
 refine ⟨{x:=X,lt:=fun j hj=>?_,inj:=fun a b p q e=>?_,publt:=hi1.publt,box:=fun j ds e=>?_,front:=fun j n k e h0=>?_,vec:=fun j b k ds e=>?_,smap:=fun j l' e=>?_},ext⟩
 ·rcases part j with ⟨i,hil,rfl⟩ | hj'
  ·rw [h1 i hil,O.ren_has] at hj
   show blkOf _ _ _ _ (t i)<_
   rw [bin i hil]
   exact hi1.lt i hj
  ·rw [h2 j hj'] at hj
   show blkOf _ _ _ _ j<_
   rw [bout j hj']
   exact Nat.lt_of_lt_of_le (hi.lt j hj) he.size
 ·have e:blkOf l.length t G.blk Gc.blk a=blkOf l.length t G.blk Gc.blk b:=e
  rcases part a with ⟨i,hil,rfl⟩ | ha <;>rcases part b with ⟨i2,hil2,rfl⟩ | hb
  ·rw [h1 i hil,O.ren_has] at p
   rw [h1 i2 hil2,O.ren_has] at q
   rw [bin i hil,bin i2 hil2] at e
   rw [hi1.inj i i2 p q e]
  ·rw [h1 i hil,O.ren_has] at p
   rw [h2 b hb] at q
   rw [bin i hil,bout b hb] at e
   exact absurd e (apart i b hil p hb q)
  ·rw [h1 i2 hil2,O.ren_has] at q
   rw [h2 a ha] at p
   rw [bin i2 hil2,bout a ha] at e
   exact absurd e.symm (apart i2 a hil2 q ha p)
  ·rw [h2 a ha] at p
   rw [h2 b hb] at q
   rw [bout a ha,bout b hb] at e
   exact hi.inj a b p q e
 ·rcases part j with ⟨i,hil,rfl⟩ | hj
  ·obtain ⟨ds0,e0,rfl⟩:=ren_box ((h1 i hil).symm.trans e)
   obtain ⟨a1,cs,T,a2,a3,a4⟩:=hi1.box i ds0 e0
   show (∀o,¬Gc.pub (blkOf _ _ _ _ (t i)) o)/\ ∃cs T,w'.heap[blkOf _ _ _ _ (t i)]?=_/\_
   rw [bin i hil]
   refine ⟨a1,cs,T,a2,by rw [rens_len];exact a3,fun m c d hc hd=>?_⟩
   rw [rens_get] at hd
   obtain ⟨d0,q0,rfl⟩:=Option.map_eq_some_iff.1 hd
   exact ⟨rn (a4 m c d0 hc q0).1,(a4 m c d0 hc q0).2⟩
  ·rw [h2 j hj] at e
   obtain ⟨a1,cs,T,a2,a3,a4⟩:=hi.box j ds e
   have hh:(h j).has=true:=by rw [e];rfl
   show (∀o,¬Gc.pub (blkOf _ _ _ _ j) o)/\ ∃cs T,w'.heap[blkOf _ _ _ _ j]?=_/\_
   rw [bout j hj]
   refine ⟨fun o p=>?_,cs,T,by rw [<-a2];exact row j hj hh,a3,fun m c d hc hd=>⟨(a4 m c d hc hd).1.ext ext,(a4 m c d hc hd).2⟩⟩
   rcases he.pubnew _ _ p with q | q | ⟨i,q1,q2⟩
   ·exact a1 o q
   ·have:=hi.lt j hh;exact absurd this (Nat.not_lt.2 q)
   ·obtain ⟨q3,q4⟩:=has0 i q1
    exact hj i (by omega) (hi.inj _ _ q4 hh q2)
 ·rcases part j with ⟨i,hil,rfl⟩ | hj
  ·have e0:=ren_front ((h1 i hil).symm.trans e)
   show (∃cs T,w'.heap[blkOf _ _ _ _ (t i)]?=_)/\ ∀o,_-> ¬Gc.pub (blkOf _ _ _ _ (t i)) o
   rw [bin i hil]
   exact hi1.front i n k e0 h0
  ·rw [h2 j hj] at e
   obtain ⟨⟨cs,T,a1⟩,a2⟩:=hi.front j n k e h0
   have hh:(h j).has=true:=by rw [e];simp [O.has,h0]
   show (∃cs T,w'.heap[blkOf _ _ _ _ j]?=_)/\ ∀o,_-> ¬Gc.pub (blkOf _ _ _ _ j) o
   rw [bout j hj]
   refine ⟨⟨cs,T,by rw [<-a1];exact row j hj hh⟩,fun o ho p=>?_⟩
   rcases he.pubnew _ _ p with q | q | ⟨i,q1,q2⟩
   ·exact a2 o ho q
   ·have:=hi.lt j hh;exact absurd this (Nat.not_lt.2 q)
   ·obtain ⟨q3,q4⟩:=has0 i q1
    exact hj i (by omega) (hi.inj _ _ q4 hh q2)
 ·rcases part j with ⟨i,hil,rfl⟩ | hj
  ·obtain ⟨ds0,e0,rfl⟩:=ren_vec ((h1 i hil).symm.trans e)
   obtain ⟨a0,a⟩:=hi1.vec i b k ds0 e0
   refine ⟨fun hb=>by rw [a0 hb];rfl,fun hb=>?_⟩
   obtain ⟨a1,cs,T,a2,a3,a4⟩:=a hb
   show (∀o,¬Gc.pub (blkOf _ _ _ _ (t i)) o)/\ ∃cs T,w'.heap[blkOf _ _ _ _ (t i)]?=_/\_
   rw [bin i hil]
   refine ⟨a1,cs,T,a2,by rw [rens_len];exact a3,fun m c d hc hd=>?_⟩
   rw [rens_get] at hd
   obtain ⟨d0,q0,rfl⟩:=Option.map_eq_some_iff.1 hd
   exact ⟨rn (a4 m c d0 hc q0).1,(a4 m c d0 hc q0).2⟩
  ·rw [h2 j hj] at e
   obtain ⟨a0,a⟩:=hi.vec j b k ds e
   refine ⟨a0,fun hb=>?_⟩
   obtain ⟨a1,cs,T,a2,a3,a4⟩:=a hb
   have hh:(h j).has=true:=by rw [e];exact hb
   show (∀o,¬Gc.pub (blkOf _ _ _ _ j) o)/\ ∃cs T,w'.heap[blkOf _ _ _ _ j]?=_/\_
   rw [bout j hj]
   refine ⟨fun o p=>?_,cs,T,by rw [<-a2];exact row j hj hh,a3,fun m c d hc hd=>⟨(a4 m c d hc hd).1.ext ext,(a4 m c d hc hd).2⟩⟩
   rcases he.pubnew _ _ p with q | q | ⟨i,q1,q2⟩
   ·exact a1 o q
   ·have:=hi.lt j hh;exact absurd this (Nat.not_lt.2 q)
   ·obtain ⟨q3,q4⟩:=has0 i q1
    exact hj i (by omega) (hi.inj _ _ q4 hh q2)
 ·rcases part j with ⟨i,hil,rfl⟩ | hj
  ·have e0:=ren_smap ((h1 i hil).symm.trans e)
   show (∀o,¬Gc.pub (blkOf _ _ _ _ (t i)) o)/\ ∃es ck,w'.heap[blkOf _ _ _ _ (t i)]?=_/\_
   rw [bin i hil]
   obtain ⟨a1,es,ck,a2,a3,a4⟩:=hi1.smap i l' e0
   exact ⟨a1,es,ck,a2,a3,fun m e p a b=>⟨(a4 m e p a b).1,RvE.mono (w:=w') (w':=w') (G:=Gc) (G':=G.beh Gc l.length t) (fun _ _ p=>⟨p,rfl⟩) (fun _ _ e=>e) (a4 m e p a b).2⟩⟩
  ·rw [h2 j hj] at e
   obtain ⟨a1,es,ck,a2,a3,a4⟩:=hi.smap j l' e
   have hh:(h j).has=true:=by rw [e];rfl
   show (∀o,¬Gc.pub (blkOf _ _ _ _ j) o)/\ ∃es ck,w'.heap[blkOf _ _ _ _ j]?=_/\_
   rw [bout j hj]
   refine ⟨fun o p=>?_,es,ck,by rw [<-a2];exact row j hj hh,a3,fun m e p a b=>⟨(a4 m e p a b).1,(a4 m e p a b).2.mono ext.pub ext.sgm⟩⟩
   rcases he.pubnew _ _ p with q | q | ⟨i,q1,q2⟩
   ·exact a1 o q
   ·have:=hi.lt j hh;exact absurd this (Nat.not_lt.2 q)
   ·obtain ⟨q3,q4⟩:=has0 i q1
    exact hj i (by omega) (hi.inj _ _ q4 hh q2)
end Go.Proofs.YtfplalbognalkaaGreat.Ab
/- Functions that are handed things that are still written; states taken for less, under new numbers. -/
namespace Go.Proofs.YtfplalbognalkaaGreat.Ab
open Go
abbrev RF:=Nat->Nat
structure Side (args:RF->List D) (l0:RF->List O) (d:RF->D) (l:RF->List O):Prop where
 ra: ∀t,args t=rens t (args id)
 la:lts (l0 id).length (args id)=true
 r0: ∀t,l0 t=(l0 id).map (O.ren t)
 k0: ∀o∈l0 id,o.lt (l0 id).length=true
 rd: ∀t,d t=(d id).ren t
 rl: ∀t,l t=(l id).map (O.ren t)
 le:(l0 id).length<=(l id).length
structure Proc (P:Program) (fn:FuncId) (args:RF->List D) (l0:RF->List O) (d:RF->D) (l:RF->List O):Prop where
 side:Side args l0 d l
 ok:CallOK P fn (args id) (l0 id) fun d' l'=>FinV (l0 id) l' d' (l id) (d id)
theorem procOf {Q:Program} (hm:Q.follows .mixedOrders=true) {fn:FuncId} {f:F} {args:RF->List D} {l0:RF->List O} {d:RF->D} {l:RF->List O} (hf:prepF Q fn=some f) (side:Side args l0 d l)
  (h: ∀(A:Ar) (P:Program),A.Ok->P=Q->goF A P f (args id) (l0 id) fun d' l'=>A.finv (l0 id) l' d' (l id) (d id)):Proc Q fn args l0 d l:=
 ⟨side,callOK hm hf (h Ar.std Q Ar.std_ok rfl)⟩
def ndB:List Nat->Bool
 | []=>true
 | i::r=>!(r.contains i)&&ndB r
theorem ndB_inj: ∀ {L:List Nat} {i j:Nat},ndB L=true->i<L.length->j<L.length->L.getD i 0=L.getD j 0->i=j
 | [],i,_,_,h,_,_=>by simp at h
 | x::r,i,j,h,hi,hj,e=>by
  simp only [ndB,Bool.and_eq_true,Bool.not_eq_true',List.contains_eq_mem,decide_eq_false_iff_not] at h
  cases i with
  | zero=>
   cases j with
   | zero=>rfl
   | succ j=>
    simp at hj e
    exact absurd (by rw [e];simp [hj]) h.1
  | succ i=>
   cases j with
   | zero=>
    simp at hi e
    exact absurd (by rw [<-e];simp [hi]) h.1
   | succ j=>
    simp at hi hj
    rw [ndB_inj h.2 hi hj (by simpa using e)]
theorem find_zip: ∀ {L:List Nat} {M:List O} {i:Nat},ndB L=true->i<L.length->L.length<=M.length->(L.zip M).find? (·.1==L.getD i 0)=some (L.getD i 0,M.getD i .dead)
 | [],_,i,_,h,_=>by simp at h
 | x::r, [],i,_,_,h=>by simp at h
 | x::r,m::M,0,_,_,_=>by simp
 | x::r,m::M,i+1,h,hi,hl=>by
  simp only [ndB,Bool.and_eq_true,Bool.not_eq_true',List.contains_eq_mem,decide_eq_false_iff_not] at h
  simp at hi hl
  have:(x==r.getD i 0)=false:=by
   simp only [beq_eq_false_iff_ne]
   intro e
   exact h.1 (by rw [e];simp [hi])
  simp only [List.zip_cons_cons,List.getD_cons_succ,List.find?_cons,this]
  exact find_zip h.2 hi hl
theorem find_zip_none {L:List Nat} {M:List O} {j:Nat} (h:j∉L):(L.zip M).find? (·.1==j)=none:=by
 rw [List.find?_eq_none]
 intro p hp
 obtain ⟨a,b⟩:=p
 have:=(List.of_mem_zip hp).1
 simp
 exact fun e=>h (e▸this)
def hpAll (hp:Hp):List Nat->List O->Prop
 | i::L,o::l=>hp i=o/\hpAll hp L l
 | [], []=>True
 | _,_=>False
theorem hpAll_len {hp:Hp} : ∀ {L:List Nat} {l:List O},hpAll hp L l->L.length=l.length
 | [], [],_=>rfl
 | _::_,_::_,h=>by simp [hpAll_len h.2]
 | [],_::_,h=>h.elim
 | _::_, [],h=>h.elim
theorem hpAll_get {hp:Hp} : ∀ {L:List Nat} {l:List O} {i:Nat},hpAll hp L l->i<L.length->hp (L.getD i 0)=l.getD i .dead
 | [],_,i,_,h=>by simp at h
 | _::_, [],_,h,_=>h.elim
 | x::L,o::l,0,h,_=>by simpa using h.1
 | x::L,o::l,i+1,h,hi=>by simpa using hpAll_get h.2 (by simpa using hi)
theorem hpAll_mem {hp:Hp} : ∀ {L:List Nat} {l:List O},hpAll hp L l-> ∀i o,(i,o)∈L.zip l->hp i=o
 | [],_,_,i,o,h=>by simp at h
 | _::_, [],h,_,_,_=>h.elim
 | x::L,o::l,h,i,o',hm=>by
  simp only [List.zip_cons_cons,List.mem_cons,Prod.mk.injEq] at hm
  rcases hm with ⟨rfl,rfl⟩ | hm
  ·exact h.1
  ·exact hpAll_mem h.2 i o' hm
def num (L:List Nat) (f:Nat):RF:=fun i=>if i<L.length then L.getD i 0 else f+(i-L.length)
theorem Proc.callE {P:Program} {fn:FuncId} {args:RF->List D} {l0:RF->List O} {d:RF->D} {l:RF->List O} (h:Proc P fn args l0 d l) {L:List Nat} {f:Nat} (hL:L.length=(l0 id).length) (hn:ndB L=true) (hf: ∀i∈L,i<f):
  CallE P fn (args (num L f)) (L.zip (l0 (num L f))) f {d:=some (d (num L f)),al:=(l (num L f)).drop L.length,wr:=L.zip ((l (num L f)).take L.length),tc:=L} :=by
 intro w G hh h' vs hi hpre hal hh' hs hr
 generalize ht:num L f=t at *
 have s:=h.side
 have l0l:(l0 t).length=L.length:=by rw [s.r0 t,List.length_map,hL]
 have ll:(l t).length=(l id).length:=by rw [s.rl t,List.length_map]
 have lle:L.length<=(l id).length:=by rw [hL];exact s.le
 have tin: ∀i,i<L.length->t i=L.getD i 0:=fun i a=>by rw [<-ht];exact if_pos a
 have tout: ∀i,L.length<=i->t i=f+(i-L.length):=fun i a=>by rw [<-ht];exact if_neg (by omega)
 have tlt: ∀i,i<L.length->t i<f:=fun i a=>by
  rw [tin i a]
  exact hf _ (by simp [List.getD,a])
 have inj: ∀i j,i<(l id).length->j<(l id).length->t i=t j->i=j:=fun i j a b e=>by
  rcases Nat.lt_or_ge i L.length with p | p <;>rcases Nat.lt_or_ge j L.length with q | q
  ·rw [tin i p,tin j q] at e;exact ndB_inj hn p q e
  ·have:=tlt i p;rw [tout j q] at e;omega
  ·have:=tlt j q;rw [tout i p] at e;omega
  ·rw [tout i p,tout j q] at e;omega
 have get0: ∀i,i<(l0 id).length->(l0 t).getD i .dead=(hpF (l0 id) i).ren t:=fun i a=>by
  rw [s.r0 t];simp [hpF,List.getD,a]
 have getl: ∀i,i<(l id).length->(l t).getD i .dead=(hpF (l id) i).ren t:=fun i a=>by
  rw [s.rl t];simp [hpF,List.getD,a]
 have hpre': ∀i,i<(l0 id).length->hh (t i)=(hpF (l0 id) i).ren t:=fun i a=>by
  rw [<-get0 i a,tin i (by omega)]
  refine hpre _ _ ?_
  rw [List.mem_iff_getElem?]
  exact ⟨i,by rw [List.getElem?_zip_eq_some];exact ⟨by simp [List.getD,show i<L.length by omega],by simp [List.getD,show i<(l0 t).length by omega]⟩⟩
 have all:((l t).drop L.length).length=(l id).length-L.length:=by rw [List.length_drop,ll]
 have iv0:=inv_ren (l:=l0 id) (t:=t) hi (fun i j a b e=>inj i j (by omega) (by omega) e) hpre' s.k0
 have hlt: ∀j v x,vs[j]?=some v->(args id)[j]?=some x->Rv w (G.re t) (hpF (l0 id)) v x:=fun j v x hv hx=>
  Rv.unren (G2:=G) (G:=(G.re t)) (m:=(l0 id).length) rfl rfl (fun i a=>⟨hpre' i a,rfl,rfl⟩) (hr j v (x.ren t) hv (by rw [s.ra t,rens_get,hx];rfl)) _ rfl (lts_get s.la hx)
 refine (h.ok w (G.re t) vs iv0 (by rw [hs,s.ra t,rens_len]) hlt).mono fun e w' ⟨v,d',l',G1,q1,q2,q3,q4,q5⟩=>?_
 obtain ⟨G2,r1,r2,r3⟩:=q2 w' G1 v q4 q3
 have h1': ∀i,i<(l id).length->h' (t i)=(hpF (l id) i).ren t:=fun i a=>by
  rw [<-getl i a,hh']
  simp only [all]
  rcases Nat.lt_or_ge i L.length with p | p
  ·have:=tlt i p
   rw [if_neg (by omega),tin i p,find_zip hn p (by rw [List.length_take,ll];omega)]
   simp [List.getD,List.getElem?_take,p]
  ·rw [tout i p,if_pos (by omega)]
   simp only [List.getD,List.getElem?_drop]
   congr 2
   omega
 have h2': ∀j,(∀i,i<(l id).length->t i≠j)->h' j=hh j:=fun j hj=>by
  rw [hh']
  simp only [all]
  rw [if_neg (fun ⟨a,b⟩=>hj (L.length+(j-f)) (by omega) (by rw [tout _ (by omega)];omega))]
  rw [find_zip_none (fun hm=>by
   obtain ⟨i,a,b⟩:=List.getElem_of_mem hm
   exact hj i (by omega) (by rw [tin i a];simp [List.getD,a,b]))]
 obtain ⟨i1,x1⟩:=frame_call (l0:=l0 id) (l:=l id) (t:=t) hi inj s.le hpre' (fun i a b=>by
  rw [tout i (by omega)]
  exact hal _ (by simp only [all];omega)) h1' h2' r2 (r3 _ _ q5)
 refine ⟨v,d t,_,q1,rfl,?_,i1,x1⟩
 rw [s.rd t]
 refine Rv.ren (G:=G2) (h:=hpF (l id)) (G2:=(G.beh G2 (l id).length t)) (h2:=h') rfl rfl (fun i hd=>?_) r1
 have hil:i<(l id).length:=by
  rcases Nat.lt_or_ge i (l id).length with q | q
  ·exact q
  ·exact absurd (hpF_ge q) hd
 exact ⟨h1' i hil,blkOf_in inj hil,blkOf_in inj hil⟩
theorem callK_pr {A:Ar} (hA:A.Ok) {P Q:Program} (e:P=Q) {hp:Hp} {f:Nat} {g:Bool} {fn:FuncId} {ds:List D} {o:Prop} {K:Prop->Eff->Prop} {args:RF->List D} {l0:RF->List O} {d:RF->D} {l:RF->List O} (L:List Nat)
  (hn:(ndB L&&L.all (· <f))=true) (hpre:hpAll hp L (l0 (num L f))) (hw:Wks ds (args (num L f)))
  (hk:K o {d:=some (d (num L f)),al:=(l (num L f)).drop L.length,wr:=L.zip ((l (num L f)).take L.length),tc:=L})
  (h:g=true->o->Proc Q fn args l0 d l) (hs:Side args l0 d l):A.call P hp f false g fn ds o K:=by
 have hL:L.length=(l0 id).length:=by rw [hpAll_len hpre,hs.r0,List.length_map]
 simp only [Bool.and_eq_true,List.all_eq_true,decide_eq_true_eq] at hn
 refine hA.call _ _ _ _ _ _ _ _ _ ⟨args (num L f),L.zip (l0 (num L f)),_,hw,fun hg ho=>e▸(h hg ho).callE hL hn.1 hn.2,hpAll_mem hpre,fun h=>(by cases h),fun x hx=>?_,?_,d (num L f),rfl,by simpa using hk⟩
 ·have:=(List.of_mem_zip (show (x.1,x.2)∈_ from hx)).1
  rw [List.map_fst_zip]
  ·exact this
  ·rw [<-hpAll_len hpre];exact Nat.le_refl _
 ·rw [List.map_fst_zip]
  rw [<-hpAll_len hpre];exact Nat.le_refl _
theorem callK_prg {A:Ar} (hA:A.Ok) {P Q:Program} (e:P=Q) {hp:Hp} {f:Nat} {fn:FuncId} {ds:List D} {o:Prop} {K:Prop->Eff->Prop} {args:RF->List D} {l0:RF->List O} {d:RF->D} {l:RF->List O} (L:List Nat)
  (hn:(ndB L&&L.all (· <f))=true) (hpre:hpAll hp L (l0 (num L f))) (hw:Wks ds (args (num L f)))
  (hk:K o {d:=some (.when true (d (num L f))),al:=(l (num L f)).drop L.length,wr:=L.zip ((l (num L f)).take L.length),tc:=L})
  (h:true=true->o->Proc Q fn args l0 d l) (hs:Side args l0 d l):A.call P hp f true true fn ds o K:=by
 have hL:L.length=(l0 id).length:=by rw [hpAll_len hpre,hs.r0,List.length_map]
 simp only [Bool.and_eq_true,List.all_eq_true,decide_eq_true_eq] at hn
 refine hA.call _ _ _ _ _ _ _ _ _ ⟨args (num L f),L.zip (l0 (num L f)),_,hw,fun hg ho=>e▸(h hg ho).callE hL hn.1 hn.2,hpAll_mem hpre,fun _ h=>(by cases h),fun x hx=>?_,?_,d (num L f),rfl,by simpa using hk⟩
 ·have:=(List.of_mem_zip (show (x.1,x.2)∈_ from hx)).1
  rw [List.map_fst_zip]
  ·exact this
  ·rw [<-hpAll_len hpre];exact Nat.le_refl _
 ·rw [List.map_fst_zip]
  rw [<-hpAll_len hpre];exact Nat.le_refl _
theorem callK_no {A:Ar} (hA:A.Ok) {P:Program} {hp:Hp} {f:Nat} {gd:Bool} {fn:FuncId} {ds:List D} {o:Prop} {K:Prop->Eff->Prop} (d:D) (hk:K o {d:=some (if gd then .when false d else d)}):A.call P hp f gd false fn ds o K:=
 hA.call _ _ _ _ _ _ _ _ _ ⟨ds, [],{d:=some d},Wks.refl _,(fun h=>by cases h),fun _ _ h=>(List.not_mem_nil h).elim,fun _ _=>⟨rfl,rfl⟩,fun _ h=>(List.not_mem_nil h).elim,rfl,d,rfl,hk⟩
def subW:List (Nat×D)->List (Nat×D)->Prop
 | [],_=>True
 | (t,d)::r,env=>(look t env=some d\/(look t env).map D.pl=some d)/\subW r env
theorem look_subW {w:World} {G:Gh} {h:Hp} : ∀ {env' env:List (Nat×D)} {t:Nat} {d:D},subW env' env->look t env'=some d-> ∃d0,look t env=some d0/\ ∀v,Rv w G h v d0->Rv w G h v d
 | [],_,_,_,_,h=>by simp [look] at h
 | (k,x)::r,env,t,d,⟨h1,h2⟩,h=>by
  simp only [look] at h
  split at h
  ·rename_i e;subst e;cases h
   rcases h1 with h1 | h1
   ·exact ⟨x,h1,fun _ r=>r⟩
   ·obtain ⟨d0,q1,q2⟩:=Option.map_eq_some_iff.1 h1
    exact ⟨d0,q1,fun _ r=>q2▸r.pl⟩
  ·exact look_subW h2 h
def renEnv (t:RF):List (Nat×D)->List (Nat×D)
 | []=> []
 | (k,d)::r=>(k,d.ren t)::renEnv t r
def ltEnv (m:Nat):List (Nat×D)->Bool
 | []=>true
 | (_,d)::r=>d.lt m&&ltEnv m r
theorem look_ren {t:RF} : ∀ {env:List (Nat×D)} {k:Nat} {d:D},look k env=some d->look k (renEnv t env)=some (d.ren t)
 | [],_,_,h=>by simp [look] at h
 | (j,x)::r,k,d,h=>by
  simp only [look] at h
  simp only [renEnv,look]
  split at h
  ·rename_i e;rw [if_pos e];cases h;rfl
  ·rename_i e;rw [if_neg e];exact look_ren h
theorem look_lt {m:Nat} : ∀ {env:List (Nat×D)} {k:Nat} {d:D},ltEnv m env=true->look k env=some d->d.lt m=true
 | [],_,_,_,h=>by simp [look] at h
 | (j,x)::r,k,d,hl,h=>by
  simp only [ltEnv,Bool.and_eq_true] at hl
  simp only [look] at h
  split at h
  ·cases h;exact hl.1
  ·exact look_lt hl.2 h
structure SideW (env:RF->List (Nat×D)) (hp:RF->List O):Prop where
 re: ∀t,env t=renEnv t (env id)
 le:ltEnv (hp id).length (env id)=true
 rh: ∀t,hp t=(hp id).map (O.ren t)
 kh: ∀o∈hp id,o.lt (hp id).length=true
def pick (S:List Nat):RF:=fun i=>S.getD i 0
def firstB:Nat->List Nat->Nat->Bool
 | 0,_,_=>true
 | n+1,x::S,i=>x==i&&firstB n S (i+1)
 | _+1, [],_=>false
theorem firstB_get: ∀ {n:Nat} {S:List Nat} {j i:Nat},firstB n S j=true->i<n->S.getD i 0=j+i/\i<S.length
 | 0,_,_,_,_,h=>by omega
 | n+1, [],_,_,h,_=>by simp [firstB] at h
 | n+1,x::S,j,0,h,_=>by simp [firstB] at h;simp [h.1]
 | n+1,x::S,j,i+1,h,hi=>by
  simp [firstB] at h
  obtain ⟨a,b⟩:=firstB_get h.2 (show i<n by omega)
  simp at a ⊢
  exact ⟨by omega,by simpa using b⟩
theorem Weak.ren {l0:List O} {env:List (Nat×D)} {hp:List O} (S:List Nat) (env':RF->List (Nat×D)) (hp':RF->List O) (hS:(ndB S&&firstB l0.length S 0)=true)
  (hsub:subW (env' (pick S)) env) (hpre:hpAll (hpF hp) S (hp' (pick S))) (side:SideW env' hp'):Weak (hpF l0) ⟨env,hp⟩ ⟨env' id,hp' id⟩:=by
 intro w G hi
 simp only [Bool.and_eq_true] at hS
 have hlen:S.length=(hp' id).length:=by rw [hpAll_len hpre,side.rh,List.length_map]
 have H: ∀i,i<(hp' id).length->hpF hp (pick S i)=(hpF (hp' id) i).ren (pick S):=fun i a=>by
  have:=hpAll_get hpre (show i<S.length by omega)
  rw [side.rh] at this
  simpa [hpF,List.getD,a,pick] using this
 have inj: ∀i j,i<(hp' id).length->j<(hp' id).length->pick S i=pick S j->i=j:=fun i j a b e=>ndB_inj hS.1 (by omega) (by omega) e
 refine ⟨(G.re (pick S)),inv_ren hi inj H side.kh,fun w0 G0 e=>ext_ren H (fun i hd=>?_) e,fun t d' hl=>?_⟩
 ·have hil:i<l0.length:=by
   rcases Nat.lt_or_ge i l0.length with q | q
   ·exact q
   ·exact absurd (hpF_ge q) hd
  obtain ⟨a,b⟩:=firstB_get hS.2 hil
  exact ⟨by simpa [pick] using a,by rw [<-hlen];exact b⟩
 ·have h2:=look_ren (t:=pick S) hl
  rw [<-side.re] at h2
  obtain ⟨d0,q1,q2⟩:=look_subW (w:=w) (G:=G) (h:=hpF hp) hsub h2
  refine ⟨d0,q1,fun x r=>?_⟩
  exact Rv.unren (G2:=G) (G:=(G.re (pick S))) (m:=(hp' id).length) rfl rfl (fun i a=>⟨H i a,rfl,rfl⟩) (q2 x r) _ rfl (look_lt side.le hl)
theorem hpF_snoc (hp:List O) (ob:O):hpF (hp++ [ob])=fun j=>if j=hp.length then ob else hpF hp j:=by
 funext j
 by_cases e:j=hp.length
 ·subst e;simp [hpF,List.getD]
 ·rw [if_neg e]
  rcases Nat.lt_or_ge j hp.length with q | q
  ·simp [hpF,List.getD,List.getElem?_append_left q]
  ·rw [hpF_ge q,hpF_ge (by simp;omega)]
theorem Weak.zvec {h0:Hp} {env:List (Nat×D)} {hp:List O} (t k:Nat) (hz:look t env=some .zs):Weak h0 ⟨env,hp⟩ ⟨(t,.vec hp.length 0 k)::env,hp++ [.vec false k []]⟩:=by
 intro w G hi
 obtain ⟨i1,x1⟩:=inv_none (i:=hp.length) (ob:= .vec false k []) hi (.inr ⟨k,rfl⟩) (.inl (hpF_ge (Nat.le_refl _)))
 rw [<-hpF_snoc] at i1 x1
 refine ⟨G,i1,fun w0 G0 e=>e.trans x1,fun t' d' hl=>?_⟩
 simp only [look] at hl
 split at hl
 ·rename_i e
  subst e
  cases hl
  refine ⟨_,hz,fun x r=>?_⟩
  cases r with
  | zs ha=>
   refine .vec (by simp [hpF,List.getD]) (Nat.zero_le _) (Nat.le_refl _) fun b k' ds e=>?_
   simp [hpF,List.getD] at e
   obtain ⟨rfl,rfl,rfl⟩:=e
   exact ⟨rfl,by simp,fun _=>⟨rfl,rfl,ha⟩,fun hb=>(by cases hb)⟩
 ·exact ⟨d',hl,fun x r=>r.ext x1⟩
theorem Weak.zown {h0:Hp} {env:List (Nat×D)} {hp:List O} (t k:Nat) (hz:look t env=some .zs):Weak h0 ⟨env,hp⟩ ⟨(t,.own hp.length [])::env,hp++ [.front 0 k]⟩:=by
 intro w G hi
 obtain ⟨i1,x1⟩:=inv_front0 (i:=hp.length) (k:=k) hi (.inl (hpF_ge (Nat.le_refl _)))
 rw [<-hpF_snoc] at i1 x1
 refine ⟨G,i1,fun w0 G0 e=>e.trans x1,fun t' d' hl=>?_⟩
 simp only [look] at hl
 split at hl
 ·rename_i e
  subst e
  cases hl
  refine ⟨_,hz,fun x r=>?_⟩
  cases r with
  | zs ha=>exact .own (k:=k) (empty_sl ha fun _=>rfl) (by simp) ⟨0,by simp [hpF,List.getD],Nat.le_refl _,fun _=> .inl ⟨rfl,_,rfl,ha⟩⟩
 ·exact ⟨d',hl,fun x r=>r.ext x1⟩
theorem FinV.ren {l0 l':List O} {d':D} (S:List Nat) (l:RF->List O) (d:RF->D) (hS:(ndB S&&firstB l0.length S 0)=true) (hd:d (pick S)=d'\/d (pick S)=d'.pl) (hpre:hpAll (hpF l') S (l (pick S)))
  (rd: ∀t,d t=(d id).ren t) (ld:(d id).lt (l id).length=true) (rl: ∀t,l t=(l id).map (O.ren t)) (kl: ∀o∈l id,o.lt (l id).length=true):FinV l0 l' d' (l id) (d id):=by
 intro w G v hi hr
 simp only [Bool.and_eq_true] at hS
 have hlen:S.length=(l id).length:=by rw [hpAll_len hpre,rl,List.length_map]
 have H: ∀i,i<(l id).length->hpF l' (pick S i)=(hpF (l id) i).ren (pick S):=fun i a=>by
  have:=hpAll_get hpre (show i<S.length by omega)
  rw [rl] at this
  simpa [hpF,List.getD,a,pick] using this
 have inj: ∀i j,i<(l id).length->j<(l id).length->pick S i=pick S j->i=j:=fun i j a b e=>ndB_inj hS.1 (by omega) (by omega) e
 have hr2:Rv w G (hpF l') v ((d id).ren (pick S)):=by
  rw [<-rd]
  rcases hd with e | e
  ·rw [e];exact hr
  ·rw [e];exact hr.pl
 refine ⟨(G.re (pick S)),Rv.unren (G2:=G) (G:=(G.re (pick S))) (m:=(l id).length) rfl rfl (fun i a=>⟨H i a,rfl,rfl⟩) hr2 _ rfl ld,inv_ren hi inj H kl,fun w0 G0 e=>ext_ren H (fun i hd=>?_) e⟩
 have hil:i<l0.length:=by
  rcases Nat.lt_or_ge i l0.length with q | q
  ·exact q
  ·exact absurd (hpF_ge q) hd
 obtain ⟨a,b⟩:=firstB_get hS.2 hil
 exact ⟨by simpa [pick] using a,by omega⟩
def fOK (Pr:Program) (G:FuncId):Prop:= ∃func,Pr.funcs[G]?=some func/\ ¬func.name= "runtime.NumGoroutine" /\func.body.isNone=false
end Go.Proofs.YtfplalbognalkaaGreat.Ab
/- The laws' helpers over rows of rows and tables: measured, copied, alike. -/
namespace Go.Proofs.YtfplalbognalkaaGreat.Ab
open Go
abbrev rsr (r:List (Bool×Int)):List E:= [E.sl (r.map vr)]
abbrev Tb:=List UInt8×Int×List (List (Bool×Int))
abbrev tbr (t:Tb):List E:= [E.str t.1,E.int t.2.1,E.sl (t.2.2.map rsr)]
theorem row_at {α:Type} {f:α->List E} {l:List α} {es:List (List E)} (he:es=l.map f) {n:Int} (h:0<=n/\n<es.length): ∃p,es.getD n.toNat []=f p/\l[n.toNat]?=some p:=by
 subst he
 have hn:n.toNat<l.length:=by simp at h;omega
 exact ⟨l[n.toNat],by simp [List.getD,hn],by simp [hn]⟩
def cut (left t:Int):Int:=if left-t<0 then-1 else left-t
def sumC {α:Type} (c:α->Int):List α->Int
 | []=>0
 | a::l=>c a+sumC c l
theorem sumC_nonneg {α:Type} {c:α->Int} (h: ∀a,0<=c a): ∀l:List α,0<=sumC c l
 | []=>Int.le_refl _
 | a::l=>by have:=h a;have:=sumC_nonneg h l;simp only [sumC];omega
theorem sumC_drop {α:Type} {c:α->Int} {l:List α} {i:Nat} {p:α} (h:l[i]?=some p):sumC c (l.drop i)=c p+sumC c (l.drop (i+1)):=by
 obtain ⟨a,b⟩:=List.getElem?_eq_some_iff.1 h
 rw [List.drop_eq_getElem_cons a,b]
 rfl
theorem sumC_mem {α:Type} {c:α->Int} (h: ∀a,0<=c a) {l:List α} {p:α} (hp:p∈l):c p<=sumC c l:=by
 induction l with
 | nil=>cases hp
 | cons a l ih=>
  simp only [sumC]
  have:=h a
  have:=sumC_nonneg h l
  rcases List.mem_cons.1 hp with rfl | hp
  ·omega
  ·have:=ih hp;omega
def cV (r:List (Bool×Int)):Int:=r.length
theorem cV_nonneg (r:List (Bool×Int)):0<=cV r:=by unfold cV;omega
def cSS (rs:List (List (Bool×Int))):Int:=rs.length+sumC cV rs
theorem cSS_nonneg (rs:List (List (Bool×Int))):0<=cSS rs:=by have:=sumC_nonneg cV_nonneg rs;unfold cSS;omega
def cT (t:Tb):Int:=t.1.length+cSS t.2.2
theorem cT_nonneg (t:Tb):0<=cT t:=by have:=cSS_nonneg t.2.2;unfold cT;omega
def cTS (ts:List Tb):Int:=ts.length+sumC cT ts
theorem cTS_nonneg (ts:List Tb):0<=cTS ts:=by have:=sumC_nonneg cT_nonneg ts;unfold cTS;omega
theorem ok210c (r:List (Bool×Int)) (x:List (List E)) (hx:x=r.map vr) (left:Int) (h:0<=left/\left<=1048576):Plain Tryz.prog 210 [.e (.sl x),.int left] (.int (cut left (cV r))):=by
 have:=ok210 x left h
 rw [show x.length=r.length by rw [hx];simp] at this
 exact this
theorem ok152 (l:List (List (Bool×Int))) (es:List (List E)) (he:es=l.map rsr) (left:Int) (h:0<=left/\left<=1048576):Plain Tryz.prog 152 [.e (.sl es),.int left] (.int (cut left (l.length+sumC cV l))):=okOf mixed p152 fun A P hA hP=>(by
 have hl1:es.length=l.length:=by rw [he];simp
 have hsn: ∀l:List (List (Bool×Int)),0<=sumC cV l:=sumC_nonneg cV_nonneg
 obtain ⟨r,hr⟩: ∃r,r=cut left (l.length+sumC cV l):=⟨_,rfl⟩
 rw [<-hr]
 have hr2:r=cut (left-es.length) (sumC cV l):=by rw [hr,hl1,cut,cut];congr 1 <;>(try apply propext) <;>omega
 clear hr
 cbv
 repeat' first | exact W1 | refine WA ?_ ?_ | with_reducible intro hcc | refine WS ?_ | refine W6 ?_ | ((with_reducible first | refine hA.Len fun z hz hb=>?_ | refine hA.Off fun b hb=>?_);cbv) | ((with_reducible first | refine hA.Sapp ?_ fun sl hsl=>?_);rotate_left;cbv) | refine WL ?_ | fail
 all_goals try simp only [hA.sm,n_cast] at *
 all_goals try (first | omega | (have:=hb trivial trivial trivial;omega) | (have:r= -1:=(by simp only [decide_eq_true_eq] at *;have:=hsn l;rw [hr2];unfold cut;split <;>omega);rw [this];done))
 ·refine hA.loopI (fun n s=> ∃(i lf:Int),0<=i/\n+i=es.length/\0<=lf/\lf<=1048576/\r=cut lf (sumC cV (l.drop i.toNat))/\
    s=⟨[(5,.int i),(0,.e (.sl es)),(1,.int lf),(4,.int 0)], []⟩) es.length _
   (Weak.keep (env':= [(5,.int 0),(0,.e (.sl es)),(1,.int (left-z)),(4,.int 0)]) ⟨rfl,rfl,rfl,rfl,trivial⟩) ⟨0,left-z,by omega,by omega,by simp only [decide_eq_false_iff_not] at *;omega,by omega,(by rw [hr2,hz];rfl),rfl⟩ ?_
  rintro n s K ⟨i,lf,h0,h1,h2,h3,h4,rfl⟩ hK
  clear hr2
  by_cases hin:(0:Int)<=i/\i<es.length
  ·obtain ⟨r1,e1,q1⟩:=row_at he hin
   obtain ⟨x1,hx1⟩: ∃x,x=r1.map vr:=⟨_,rfl⟩
   have e1:es.getD i.toNat []= [E.sl x1]:=e1.trans (by rw [hx1])
   rw [sumC_drop q1] at h4
   obtain ⟨S,hS⟩: ∃S,S=sumC cV (l.drop (i.toNat+1)):=⟨_,rfl⟩
   have hS0:0<=S:=hS▸hsn _
   obtain ⟨c,hcost⟩: ∃c,c=cV r1:=⟨_,rfl⟩
   have hc0:0<=c:=hcost▸cV_nonneg _
   have hc:=ok210c r1 x1 hx1 lf ⟨h2,h3⟩
   rw [<-hS,<-hcost] at h4
   rw [<-hcost] at hc
   obtain ⟨u,hu⟩: ∃u,u=cut lf c:=⟨_,rfl⟩
   rw [<-hu] at hc
   have e8:(i+1).toNat=i.toNat+1:=by omega
   have g1:u<0->r= -1:=fun a=>by rw [h4];unfold cut at hu ⊢;split at hu <;>split <;>omega
   have g2:0<=u->r=cut u S/\u<=lf:=fun a=>by
    have hu2:u=lf-c:=by rw [hu] at a ⊢;unfold cut at a ⊢;split at a <;>split <;>omega
    refine ⟨?_,by omega⟩
    rw [h4,hu2]
    unfold cut
    rw [show lf-(c+S)=lf-c-S by omega]
   clear h4 hu hcost
   cbv
   repeat' first | exact W1 | refine WA ?_ ?_ | with_reducible intro hcc | refine WS ?_ | refine WK hA hP ?_ | (refine hA.RowE hin e1 ?_;cbv) | refine W6 ?_ | ((with_reducible first | refine hA.Len fun z hz hb=>?_ | refine hA.Off fun b hb=>?_);cbv) | ((with_reducible first | refine hA.Sapp ?_ fun sl hsl=>?_);rotate_left;cbv) | refine WL ?_ | fail
   all_goals try simp only [hA.sm,n_cast] at *
   all_goals first
    | omega
    | (clear hK g1 g2 he;simp at *;omega)
    | (rw [g1 (by clear hK g2;simp at *;omega)];done)
    | (have hu0:0<=u:=(by clear hK;simp at *;omega)
       exact hK _ (n-1) _ (by omega) (Weak.keep (env':= [(5,.int (i+1)),(0,.e (.sl es)),(1,.int u),(4,.int 0)]) ⟨rfl,rfl,rfl,rfl,trivial⟩) ⟨i+1,u,by omega,by omega,hu0,by have:=(g2 hu0).2;omega,by rw [e8,<-hS];exact (g2 hu0).1,rfl⟩)
    | (clear hK g1 g2 he;simp at *;omega)
  ·have hd:l.drop i.toNat= []:=by rw [List.drop_eq_nil_iff];omega
   rw [hd] at h4
   have h5:r=lf:=by rw [h4,sumC,cut,if_neg (by omega)];omega
   clear h4 hK
   cbv
   repeat' first | exact W1 | refine WA ?_ ?_ | with_reducible intro hcc | refine WS ?_ | (exfalso;simp only [hA.lt,hA.sub,decide_eq_true_eq,decide_eq_false_iff_not,n_cast] at *;omega) | refine W6 ?_ | ((with_reducible first | refine hA.Len fun z hz hb=>?_ | refine hA.Off fun b hb=>?_);cbv) | ((with_reducible first | refine hA.Sapp ?_ fun sl hsl=>?_);rotate_left;cbv) | refine WL ?_ | fail
   all_goals try simp only [hA.sm,n_cast] at *
   all_goals first
    | (rw [h5])
    | omega
    | (clear he;simp at *;omega))
theorem ok161 (l:List (List (Bool×Int))) (es:List (List E)) (he:es=l.map rsr) (hlen:es.length<=1048576) (hb2: ∀r∈l,r.length<=1048576):Plain Tryz.prog 161 [.e (.sl es)] (.e (.sl es)):=okOf mixed p161 fun A P hA hP=>(by
 have hl1:es.length=l.length:=by rw [he];simp
 have hes: ∀e∈es,e.length=1:=by
  rw [he]
  intro e h
  obtain ⟨p,_,rfl⟩:=List.mem_map.1 h
  rfl
 cbv
 repeat' first | exact W1 | refine WA ?_ ?_ | with_reducible intro hcc | refine WS ?_ | refine W6 ?_ | ((with_reducible first | refine hA.Len fun z hz hb=>?_ | refine hA.Off fun b hb=>?_ | refine hA.Rep fun ds m hds hm=>?_);cbv) | ((with_reducible first | refine hA.Sto ?_ fun ds hds=>?_ | refine hA.Sapp ?_ fun sl hsl=>?_);rotate_left;cbv) | refine WL ?_ | fail
 all_goals try simp only [hA.sm,n_cast] at *
 ·omega
 ·omega
 ·refine hA.loopI (fun n s=> ∃(i:Int) (xs:List (List E)),0<=i/\n+i=es.length/\xs.length=es.length/\(∀e∈xs,e.length=1)/\(∀j:Nat,j<i->xs[j]?=es[j]?)/\
    s=⟨[(4,.int i),(3,.bs 0 0 m 1),(2,.zs),(0,.e (.sl es))], [.box (xs.flatten.map .e)]⟩) es.length _
   (Weak.keep (env':= [(4,.int 0),(3,.bs 0 0 m 1),(2,.zs),(0,.e (.sl es))]) ⟨rfl,rfl,rfl,rfl,trivial⟩)
   ⟨0,List.replicate m [E.sl []],by omega,by omega,by simp;omega,by simp,fun j hj=>by omega,by rw [<-buf_zero,hm];rw [hds];rfl⟩ ?_
  rintro n s K ⟨i,xs,h0,h1,h2,h3,h4,rfl⟩ hK
  obtain ⟨ys,hys⟩: ∃ys,ys=xs.flatten.map D.e:=⟨_,rfl⟩
  have hyl:ys.length=xs.length * 1:=by rw [hys,List.length_map,flatten_len h3]
  rw [<-hys]
  by_cases hin:(0:Int)<=i/\i<es.length
  ·obtain ⟨r1,e1,q1⟩:=row_at he hin
   obtain ⟨x1,hx1⟩: ∃x,x=r1.map vr:=⟨_,rfl⟩
   have e1:es.getD i.toNat []= [E.sl x1]:=e1.trans (by rw [hx1])
   have hc:=ok215 r1 x1 hx1 (by have:=hb2 r1 (List.mem_of_getElem? q1);rw [hx1,List.length_map];omega)
   have hrow0:es[i.toNat]?=some (es.getD i.toNat []):=by
    have:i.toNat<es.length:=by omega
    simp [List.getD,this]
   have hrl:(es.getD i.toNat []).length=1:=hes _ (List.mem_of_getElem? hrow0)
   cbv
   repeat' first | exact W1 | refine WA ?_ ?_ | with_reducible intro hcc | refine WS ?_ | refine WK hA hP ?_ | (refine hA.RowE hin e1 ?_;cbv) | refine W6 ?_ | ((with_reducible first | refine hA.Len fun z hz hb=>?_ | refine hA.Off fun b hb=>?_ | refine hA.Rep fun ds m hds hm=>?_);cbv) | ((with_reducible first | refine hA.Sto ?_ fun ds hds=>?_ | refine hA.Sapp ?_ fun sl hsl=>?_);rotate_left;cbv) | refine WL ?_ | fail
   all_goals try simp only [hA.sm,n_cast] at *
   all_goals first
    | (show _<(m:Int);omega)
    | omega
    | (clear hK h4 he;grind;done)
    | (have hb':b=i.toNat * 1:=by omega
       refine hK _ (n-1) _ (by omega) (Weak.keep (env':= [(4,.int (i+1)),(3,.bs 0 0 m 1),(2,.zs),(0,.e (.sl es))]) ⟨rfl,rfl,rfl,rfl,trivial⟩)
        ⟨i+1,xs.set i.toNat (es.getD i.toNat []),by omega,by omega,by simp [h2],fun e h=>?_,fun j hj=>?_,?_⟩
       ·rcases List.mem_or_eq_of_mem_set h with h | rfl
        ·exact h3 e h
        ·exact hrl
       ·by_cases hji:(j:Int)<i
        ·rw [List.getElem?_set_ne (show i.toNat≠j by omega)];exact h4 j hji
        ·have:j=i.toNat:=by omega
         subst this
         rw [List.getElem?_set_self (show i.toNat<xs.length by omega),hrow0]
       ·congr 2
        rw [hds,hys,hb']
        congr 1
        have q:=buf_set (k:=1) (by omega) h3 (i:=i.toNat) (show i.toNat<xs.length by omega) hrl
        rw [e1] at q ⊢
        exact q)
  ·have hxe:xs=es:=by
    refine List.ext_getElem? fun j=>?_
    by_cases hj:(j:Int)<i
    ·exact h4 j hj
    ·rw [List.getElem?_eq_none (by omega),List.getElem?_eq_none (by omega)]
   cbv
   repeat' first | exact W1 | refine WA ?_ ?_ | with_reducible intro hcc | refine WS ?_ | (exfalso;simp only [hA.lt,hA.sub,decide_eq_true_eq,decide_eq_false_iff_not,n_cast] at *;omega) | ((with_reducible refine hA.fin_bs (es:=es) ?_ ?_ hes)) | refine W6 ?_ | ((with_reducible first | refine hA.Len fun z hz hb=>?_ | refine hA.Off fun b hb=>?_ | refine hA.Rep fun ds m hds hm=>?_);cbv) | ((with_reducible first | refine hA.Sto ?_ fun ds hds=>?_ | refine hA.Sapp ?_ fun sl hsl=>?_);rotate_left;cbv) | refine WL ?_ | fail
   all_goals try simp only [hA.sm,n_cast] at *
   all_goals first
    | (rw [hys,hxe];rfl)
    | omega
    | (clear hK h4 he;grind;done))
theorem ok21 (l l':List (List (Bool×Int))) (es fs:List (List E)) (he:es=l.map rsr) (hf:fs=l'.map rsr):Plain Tryz.prog 21 [.e (.sl es),.e (.sl fs)] (.bool (decide (l=l'))):=okOf mixed p21 fun A P hA hP=>(by
 obtain ⟨r,hr⟩: ∃r:Bool,r=decide (l=l'):=⟨_,rfl⟩
 rw [<-hr]
 have hl1:es.length=l.length:=by rw [he];simp
 have hl2:fs.length=l'.length:=by rw [hf];simp
 cbv
 repeat' first | exact W1 | refine WA ?_ ?_ | with_reducible intro hcc | refine WS ?_ | refine W6 ?_ | ((with_reducible first | refine hA.Len fun z hz hb=>?_ | refine hA.Off fun b hb=>?_);cbv) | ((with_reducible first | refine hA.Sapp ?_ fun sl hsl=>?_);rotate_left;cbv) | refine WL ?_ | fail
 all_goals try simp only [hA.sm,n_cast] at *
 ·have:l≠l':=fun e=>by subst e;clear hr;grind
  rw [hr];simp [this]
 ·have hzz:es.length=fs.length:=by clear hr;grind
  refine hA.loopI (fun n s=> ∃i:Int,0<=i/\n+i=l.length/\(∀j:Nat,j<i->l[j]?=l'[j]?)/\s=⟨[(5,.int i),(4,.bool false),(0,.e (.sl es)),(1,.e (.sl fs))], []⟩) l.length _ (Weak.keep (env':= [(5,.int 0),(4,.bool false),(0,.e (.sl es)),(1,.e (.sl fs))]) ⟨rfl,rfl,rfl,rfl,trivial⟩) ⟨0,by omega,by omega,fun j hj=>by omega,rfl⟩ ?_
  rintro n s K ⟨i,h0,h1,h2,rfl⟩ hK
  by_cases hin:(0:Int)<=i/\i<es.length
  ·have hin2:(0:Int)<=i/\i<fs.length:=by omega
   obtain ⟨r1,e1,q1⟩:=row_at he hin
   obtain ⟨r2,e2,q2⟩:=row_at hf hin2
   obtain ⟨x1,hx1⟩: ∃x,x=r1.map vr:=⟨_,rfl⟩
   have e1:es.getD i.toNat []= [E.sl x1]:=e1.trans (by rw [hx1])
   obtain ⟨x2,hx2⟩: ∃x,x=r2.map vr:=⟨_,rfl⟩
   have e2:fs.getD i.toNat []= [E.sl x2]:=e2.trans (by rw [hx2])
   have hc:=ok53 r1 r2 x1 x2 hx1 hx2
   obtain ⟨c,hcc⟩: ∃c:Bool,c=decide ((r1:List (Bool×Int))=r2):=⟨_,rfl⟩
   rw [<-hcc] at hc
   have c1:c=false->r=false:=fun e=>by
    rw [hr,decide_eq_false_iff_not]
    intro e'
    subst e'
    rw [q1] at q2
    cases q2
    rw [e] at hcc
    simp at hcc
   have c2:c=true->l[i.toNat]?=l'[i.toNat]?:=fun e=>by
    rw [e] at hcc
    rw [q1,q2,of_decide_eq_true hcc.symm]
   clear hcc hr
   cbv
   repeat' first | exact W1 | refine WA ?_ ?_ | with_reducible intro hcc | refine WS ?_ | refine WK hA hP ?_ | (refine hA.RowE hin e1 ?_;cbv) | (refine hA.RowE hin2 e2 ?_;cbv) | refine W6 ?_ | ((with_reducible first | refine hA.Len fun z hz hb=>?_ | refine hA.Off fun b hb=>?_);cbv) | ((with_reducible first | refine hA.Sapp ?_ fun sl hsl=>?_);rotate_left;cbv) | refine WL ?_ | fail
   all_goals try simp only [hA.sm,n_cast] at *
   all_goals first
    | omega
    | (refine hK _ (n-1) _ (by omega) (Weak.gc (env':= [(5,.int (i+1)),(4,.bool false),(0,.e (.sl es)),(1,.e (.sl fs))]) ⟨rfl,rfl,rfl,rfl,trivial⟩ rfl) ⟨i+1,by omega,by omega,fun j hj=>?_,rfl⟩
       by_cases hji:(j:Int)<i
       ·exact h2 j hji
       ·have:j=i.toNat:=by omega
        rw [this]
        exact c2 (by clear hK h2;grind))
    | (clear hK h2 he hf e1 e2;grind;done)
  ·have hll:l=l':=by
    refine List.ext_getElem? fun j=>?_
    by_cases hj:(j:Int)<i
    ·exact h2 j hj
    ·rw [List.getElem?_eq_none (by omega),List.getElem?_eq_none (by omega)]
   have hr2:r=true:=by rw [hr,hll];simp
   clear hr
   cbv
   repeat' first | exact W1 | refine WA ?_ ?_ | with_reducible intro hcc | refine WS ?_ | (exfalso;simp only [hA.lt,hA.sub,decide_eq_true_eq,decide_eq_false_iff_not,n_cast] at *;omega) | refine W6 ?_ | ((with_reducible first | refine hA.Len fun z hz hb=>?_ | refine hA.Off fun b hb=>?_);cbv) | ((with_reducible first | refine hA.Sapp ?_ fun sl hsl=>?_);rotate_left;cbv) | refine WL ?_ | fail
   all_goals try simp only [hA.sm,n_cast] at *
   all_goals first
    | (rw [hr2])
    | omega
    | (clear hK h2 hll he hf;grind;done))
theorem ok77 (n1:List UInt8) (c1:Int) (rs:List (List (Bool×Int))) (x:List (List E)) (hx:x=rs.map rsr) (left:Int) (h:0<=left/\left<=1048576):Plain Tryz.prog 77 [.agg [.str n1,.int c1,.e (.sl x)],.int left] (.int (cut left (cT (n1,c1,rs)))):=okOf mixed p77 fun A P hA hP=>(by
 obtain ⟨a,ha⟩: ∃a:Int,a=left-n1.length:=⟨_,rfl⟩
 obtain ⟨r,hr⟩: ∃r,r=cut left (cT (n1,c1,rs)):=⟨_,rfl⟩
 rw [<-hr]
 have hs:=cSS_nonneg rs
 have hr2:r=if a-cSS rs<0 then-1 else a-cSS rs:=by rw [hr,cut,cT,show left-((n1.length:Int)+cSS rs)=a-cSS rs by omega]
 clear hr
 by_cases ha0:a<0
 ·have hrr:r= -1:=by rw [hr2];split <;>omega
  have hr2:True:=trivial
  cbv
  repeat' first | exact W1 | refine WA ?_ ?_ | with_reducible intro hcc | refine WS ?_ | (exfalso;simp only [hA.lt,hA.sub,decide_eq_true_eq,decide_eq_false_iff_not,n_cast] at *;omega) | refine W6 ?_ | ((with_reducible first | refine hA.Slen fun z hz hb=>?_);cbv) | refine WL ?_ | fail
  all_goals try simp only [hA.sm,n_cast] at *
  all_goals first | omega | (rw [hrr]) | (clear hr2;simp at *;omega)
 ·have h46: ∀b,b=a->Plain Tryz.prog 152 [.e (.sl x),.int b] (.int (cut a (cSS rs))):=fun b hb=>hb▸ok152 rs _ hx a (by omega)
  obtain ⟨u,hu⟩: ∃u,u=cut a (cSS rs):=⟨_,rfl⟩
  rw [<-hu] at h46
  rw [cut] at hu
  rw [<-hu] at hr2
  cbv
  repeat' first | exact W1 | refine WA ?_ ?_ | with_reducible intro hcc | refine WS ?_ | ((with_reducible refine callK_eq hA hP ?_ ?_ ?_ (Wks.refl _) (fun _ _=>h46 _ ?_));exact rfl;exact rfl;cbv) | refine W6 ?_ | ((with_reducible first | refine hA.Slen fun z hz hb=>?_);cbv) | refine WL ?_ | fail
  all_goals try simp only [hA.sm,n_cast] at *
  all_goals first | omega | (rw [hr2];done) | (have:u= -1:=(by simp only [decide_eq_true_eq,decide_eq_false_iff_not] at *;split at hu <;>omega);rw [hr2,this];done) | (clear h46;simp at *;omega))
theorem ok32 (l:List (Tb)) (es:List (List E)) (he:es=l.map tbr) (left:Int) (h:0<=left/\left<=1048576):Plain Tryz.prog 32 [.e (.sl es),.int left] (.int (cut left (l.length+sumC cT l))):=okOf mixed p32 fun A P hA hP=>(by
 have hl1:es.length=l.length:=by rw [he];simp
 have hsn: ∀l:List (Tb),0<=sumC cT l:=sumC_nonneg cT_nonneg
 obtain ⟨r,hr⟩: ∃r,r=cut left (l.length+sumC cT l):=⟨_,rfl⟩
 rw [<-hr]
 have hr2:r=cut (left-es.length) (sumC cT l):=by rw [hr,hl1,cut,cut];congr 1 <;>(try apply propext) <;>omega
 clear hr
 cbv
 repeat' first | exact W1 | refine WA ?_ ?_ | with_reducible intro hcc | refine WS ?_ | refine W6 ?_ | ((with_reducible first | refine hA.Len fun z hz hb=>?_ | refine hA.Off fun b hb=>?_);cbv) | ((with_reducible first | refine hA.Sapp ?_ fun sl hsl=>?_);rotate_left;cbv) | refine WL ?_ | fail
 all_goals try simp only [hA.sm,n_cast] at *
 all_goals try (first | omega | (have:=hb trivial trivial trivial;omega) | (have:r= -1:=(by simp only [decide_eq_true_eq] at *;have:=hsn l;rw [hr2];unfold cut;split <;>omega);rw [this];done))
 ·refine hA.loopI (fun n s=> ∃(i lf:Int),0<=i/\n+i=es.length/\0<=lf/\lf<=1048576/\r=cut lf (sumC cT (l.drop i.toNat))/\
    s=⟨[(5,.int i),(0,.e (.sl es)),(1,.int lf),(4,.int 0)], []⟩) es.length _
   (Weak.keep (env':= [(5,.int 0),(0,.e (.sl es)),(1,.int (left-z)),(4,.int 0)]) ⟨rfl,rfl,rfl,rfl,trivial⟩) ⟨0,left-z,by omega,by omega,by simp only [decide_eq_false_iff_not] at *;omega,by omega,(by rw [hr2,hz];rfl),rfl⟩ ?_
  rintro n s K ⟨i,lf,h0,h1,h2,h3,h4,rfl⟩ hK
  clear hr2
  by_cases hin:(0:Int)<=i/\i<es.length
  ·obtain ⟨⟨n1,c1,rs1⟩,e1,q1⟩:=row_at he hin
   obtain ⟨x1,hx1⟩: ∃x,x=rs1.map rsr:=⟨_,rfl⟩
   have e1:es.getD i.toNat []= [E.str n1,E.int c1,E.sl x1]:=e1.trans (by rw [hx1])
   rw [sumC_drop q1] at h4
   obtain ⟨S,hS⟩: ∃S,S=sumC cT (l.drop (i.toNat+1)):=⟨_,rfl⟩
   have hS0:0<=S:=hS▸hsn _
   obtain ⟨c,hcost⟩: ∃c,c=cT (n1,c1,rs1):=⟨_,rfl⟩
   have hc0:0<=c:=hcost▸cT_nonneg _
   have hc:=ok77 n1 c1 rs1 x1 hx1 lf ⟨h2,h3⟩
   rw [<-hS,<-hcost] at h4
   rw [<-hcost] at hc
   obtain ⟨u,hu⟩: ∃u,u=cut lf c:=⟨_,rfl⟩
   rw [<-hu] at hc
   have e8:(i+1).toNat=i.toNat+1:=by omega
   have g1:u<0->r= -1:=fun a=>by rw [h4];unfold cut at hu ⊢;split at hu <;>split <;>omega
   have g2:0<=u->r=cut u S/\u<=lf:=fun a=>by
    have hu2:u=lf-c:=by rw [hu] at a ⊢;unfold cut at a ⊢;split at a <;>split <;>omega
    refine ⟨?_,by omega⟩
    rw [h4,hu2]
    unfold cut
    rw [show lf-(c+S)=lf-c-S by omega]
   clear h4 hu hcost
   cbv
   repeat' first | exact W1 | refine WA ?_ ?_ | with_reducible intro hcc | refine WS ?_ | refine WK hA hP ?_ | (refine hA.RowE hin e1 ?_;cbv) | refine W6 ?_ | ((with_reducible first | refine hA.Len fun z hz hb=>?_ | refine hA.Off fun b hb=>?_);cbv) | ((with_reducible first | refine hA.Sapp ?_ fun sl hsl=>?_);rotate_left;cbv) | refine WL ?_ | fail
   all_goals try simp only [hA.sm,n_cast] at *
   all_goals first
    | omega
    | (clear hK g1 g2 he;simp at *;omega)
    | (rw [g1 (by clear hK g2;simp at *;omega)];done)
    | (have hu0:0<=u:=(by clear hK;simp at *;omega)
       exact hK _ (n-1) _ (by omega) (Weak.keep (env':= [(5,.int (i+1)),(0,.e (.sl es)),(1,.int u),(4,.int 0)]) ⟨rfl,rfl,rfl,rfl,trivial⟩) ⟨i+1,u,by omega,by omega,hu0,by have:=(g2 hu0).2;omega,by rw [e8,<-hS];exact (g2 hu0).1,rfl⟩)
    | (clear hK g1 g2 he;simp at *;omega)
  ·have hd:l.drop i.toNat= []:=by rw [List.drop_eq_nil_iff];omega
   rw [hd] at h4
   have h5:r=lf:=by rw [h4,sumC,cut,if_neg (by omega)];omega
   clear h4 hK
   cbv
   repeat' first | exact W1 | refine WA ?_ ?_ | with_reducible intro hcc | refine WS ?_ | (exfalso;simp only [hA.lt,hA.sub,decide_eq_true_eq,decide_eq_false_iff_not,n_cast] at *;omega) | refine W6 ?_ | ((with_reducible first | refine hA.Len fun z hz hb=>?_ | refine hA.Off fun b hb=>?_);cbv) | ((with_reducible first | refine hA.Sapp ?_ fun sl hsl=>?_);rotate_left;cbv) | refine WL ?_ | fail
   all_goals try simp only [hA.sm,n_cast] at *
   all_goals first
    | (rw [h5])
    | omega
    | (clear he;simp at *;omega))
theorem ok7 (ts:List Tb) (x:List (List E)) (hx:x=ts.map tbr) (left:Int) (h:0<=left/\left<=1048576):Plain Tryz.prog 7 [.agg [.e (.sl x)],.int left] (.int (cut left (cTS ts))):=okOf mixed p7 fun A P hA hP=>(by
 have h65:Plain Tryz.prog 32 [.e (.sl x),.int left] (.int (cut left (cTS ts))):=ok32 ts _ hx left h
 obtain ⟨u,hu⟩: ∃u,u=cut left (cTS ts):=⟨_,rfl⟩
 rw [<-hu] at h65 ⊢
 have hu2:u<0->u= -1:=fun a=>by rw [hu,cut] at a ⊢;split at a <;>split <;>omega
 clear hu
 cbv
 repeat' first | exact W1 | refine WA ?_ ?_ | with_reducible intro hcc | refine WS ?_ | refine WK hA hP ?_ | refine W6 ?_ | refine WL ?_ | fail
 all_goals try simp only [hA.sm,n_cast] at *
 all_goals first | rfl | omega | (rw [hu2 (by simp at *;omega)]))
theorem ok85 (n1:List UInt8) (c1:Int) (rs:List (List (Bool×Int))) (x:List (List E)) (hx:x=rs.map rsr) (h1:rs.length<=1048576) (h2: ∀r∈rs,r.length<=1048576):Plain Tryz.prog 85 [.agg [.str n1,.int c1,.e (.sl x)]] (.agg [.str n1,.int c1,.e (.sl x)]):=okOf mixed p85 fun A P hA hP=>(by
 have h48:=ok161 rs x hx (by rw [hx,List.length_map];exact h1) h2
 cbv
 repeat' first | exact W1 | refine WA ?_ ?_ | with_reducible intro hcc | refine WS ?_ | refine WK hA hP ?_ | refine W6 ?_ | ((with_reducible first | refine hA.Sto ?_ fun ds hds=>?_);rotate_left;cbv) | refine WL ?_ | fail
 all_goals try simp only [hA.sm,n_cast] at *
 )
theorem ok36 (l:List (Tb)) (es:List (List E)) (he:es=l.map tbr) (hlen:es.length<=1048576) (hb2: ∀t∈l,t.2.2.length<=1048576/\ ∀r∈t.2.2,r.length<=1048576):Plain Tryz.prog 36 [.e (.sl es)] (.e (.sl es)):=okOf mixed p36 fun A P hA hP=>(by
 have hl1:es.length=l.length:=by rw [he];simp
 have hes: ∀e∈es,e.length=3:=by
  rw [he]
  intro e h
  obtain ⟨p,_,rfl⟩:=List.mem_map.1 h
  rfl
 cbv
 repeat' first | exact W1 | refine WA ?_ ?_ | with_reducible intro hcc | refine WS ?_ | refine W6 ?_ | ((with_reducible first | refine hA.Len fun z hz hb=>?_ | refine hA.Off fun b hb=>?_ | refine hA.Rep fun ds m hds hm=>?_);cbv) | ((with_reducible first | refine hA.Sto ?_ fun ds hds=>?_ | refine hA.Sapp ?_ fun sl hsl=>?_);rotate_left;cbv) | refine WL ?_ | fail
 all_goals try simp only [hA.sm,n_cast] at *
 ·omega
 ·omega
 ·refine hA.loopI (fun n s=> ∃(i:Int) (xs:List (List E)),0<=i/\n+i=es.length/\xs.length=es.length/\(∀e∈xs,e.length=3)/\(∀j:Nat,j<i->xs[j]?=es[j]?)/\
    s=⟨[(4,.int i),(3,.bs 0 0 m 3),(2,.zs),(0,.e (.sl es))], [.box (xs.flatten.map .e)]⟩) es.length _
   (Weak.keep (env':= [(4,.int 0),(3,.bs 0 0 m 3),(2,.zs),(0,.e (.sl es))]) ⟨rfl,rfl,rfl,rfl,trivial⟩)
   ⟨0,List.replicate m [E.str [],E.int 0,E.sl []],by omega,by omega,by simp;omega,by simp,fun j hj=>by omega,by rw [<-buf_zero,hm];rw [hds];rfl⟩ ?_
  rintro n s K ⟨i,xs,h0,h1,h2,h3,h4,rfl⟩ hK
  obtain ⟨ys,hys⟩: ∃ys,ys=xs.flatten.map D.e:=⟨_,rfl⟩
  have hyl:ys.length=xs.length * 3:=by rw [hys,List.length_map,flatten_len h3]
  rw [<-hys]
  by_cases hin:(0:Int)<=i/\i<es.length
  ·obtain ⟨⟨n1,c1,rs1⟩,e1,q1⟩:=row_at he hin
   obtain ⟨x1,hx1⟩: ∃x,x=rs1.map rsr:=⟨_,rfl⟩
   have e1:es.getD i.toNat []= [E.str n1,E.int c1,E.sl x1]:=e1.trans (by rw [hx1])
   have hc:=ok85 n1 c1 rs1 x1 hx1 (hb2 _ (List.mem_of_getElem? q1)).1 (hb2 _ (List.mem_of_getElem? q1)).2
   have hrow0:es[i.toNat]?=some (es.getD i.toNat []):=by
    have:i.toNat<es.length:=by omega
    simp [List.getD,this]
   have hrl:(es.getD i.toNat []).length=3:=hes _ (List.mem_of_getElem? hrow0)
   cbv
   repeat' first | exact W1 | refine WA ?_ ?_ | with_reducible intro hcc | refine WS ?_ | refine WK hA hP ?_ | (refine hA.RowE hin e1 ?_;cbv) | refine W6 ?_ | ((with_reducible first | refine hA.Len fun z hz hb=>?_ | refine hA.Off fun b hb=>?_ | refine hA.Rep fun ds m hds hm=>?_);cbv) | ((with_reducible first | refine hA.Sto ?_ fun ds hds=>?_ | refine hA.Sapp ?_ fun sl hsl=>?_);rotate_left;cbv) | refine WL ?_ | fail
   all_goals try simp only [hA.sm,n_cast] at *
   all_goals first
    | (show _<(m:Int);omega)
    | omega
    | (clear hK h4 he;grind;done)
    | (have hb':b=i.toNat * 3:=by omega
       refine hK _ (n-1) _ (by omega) (Weak.keep (env':= [(4,.int (i+1)),(3,.bs 0 0 m 3),(2,.zs),(0,.e (.sl es))]) ⟨rfl,rfl,rfl,rfl,trivial⟩)
        ⟨i+1,xs.set i.toNat (es.getD i.toNat []),by omega,by omega,by simp [h2],fun e h=>?_,fun j hj=>?_,?_⟩
       ·rcases List.mem_or_eq_of_mem_set h with h | rfl
        ·exact h3 e h
        ·exact hrl
       ·by_cases hji:(j:Int)<i
        ·rw [List.getElem?_set_ne (show i.toNat≠j by omega)];exact h4 j hji
        ·have:j=i.toNat:=by omega
         subst this
         rw [List.getElem?_set_self (show i.toNat<xs.length by omega),hrow0]
       ·congr 2
        rw [hds,hys,hb']
        congr 1
        have q:=buf_set (k:=3) (by omega) h3 (i:=i.toNat) (show i.toNat<xs.length by omega) hrl
        rw [e1] at q ⊢
        exact q)
  ·have hxe:xs=es:=by
    refine List.ext_getElem? fun j=>?_
    by_cases hj:(j:Int)<i
    ·exact h4 j hj
    ·rw [List.getElem?_eq_none (by omega),List.getElem?_eq_none (by omega)]
   cbv
   repeat' first | exact W1 | refine WA ?_ ?_ | with_reducible intro hcc | refine WS ?_ | (exfalso;simp only [hA.lt,hA.sub,decide_eq_true_eq,decide_eq_false_iff_not,n_cast] at *;omega) | ((with_reducible refine hA.fin_bs (es:=es) ?_ ?_ hes)) | refine W6 ?_ | ((with_reducible first | refine hA.Len fun z hz hb=>?_ | refine hA.Off fun b hb=>?_ | refine hA.Rep fun ds m hds hm=>?_);cbv) | ((with_reducible first | refine hA.Sto ?_ fun ds hds=>?_ | refine hA.Sapp ?_ fun sl hsl=>?_);rotate_left;cbv) | refine WL ?_ | fail
   all_goals try simp only [hA.sm,n_cast] at *
   all_goals first
    | (rw [hys,hxe];rfl)
    | omega
    | (clear hK h4 he;grind;done))
theorem ok10 (ts:List Tb) (x:List (List E)) (hx:x=ts.map tbr) (h1:ts.length<=1048576) (h2: ∀t∈ts,t.2.2.length<=1048576/\ ∀r∈t.2.2,r.length<=1048576):Plain Tryz.prog 10 [.agg [.e (.sl x)]] (.agg [.e (.sl x)]):=okOf mixed p10 fun A P hA hP=>(by
 have h68:=ok36 ts x hx (by rw [hx,List.length_map];exact h1) h2
 cbv
 repeat' first | exact W1 | refine WA ?_ ?_ | with_reducible intro hcc | refine WS ?_ | refine WK hA hP ?_ | refine W6 ?_ | ((with_reducible first | refine hA.Sto ?_ fun ds hds=>?_);rotate_left;cbv) | refine WL ?_ | fail
 all_goals try simp only [hA.sm,n_cast] at *
 )
theorem ok94 (n1:List UInt8) (c1:Int) (rs:List (List (Bool×Int))) (x:List (List E)) (hx:x=rs.map rsr) (n2:List UInt8) (c2:Int) (rs':List (List (Bool×Int))) (x':List (List E)) (hx':x'=rs'.map rsr):
  Plain Tryz.prog 94 [.agg [.str n1,.int c1,.e (.sl x)],.agg [.str n2,.int c2,.e (.sl x')]] (.bool (decide ((n1,c1,rs)=(n2,c2,rs')))):=okOf mixed p94 fun A P hA hP=>(by
 have h49:=ok21 rs rs' x x' hx hx'
 obtain ⟨c,hc⟩: ∃c,c=decide (rs=rs'):=⟨_,rfl⟩
 rw [<-hc] at h49
 obtain ⟨r,hr⟩: ∃r,r=decide ((n1,c1,rs)=(n2,c2,rs')):=⟨_,rfl⟩
 rw [<-hr]
 have hr2:r=(decide (n1=n2)&&decide (c1=c2)&&c):=by rw [hr,hc];by_cases a:n1=n2 <;>by_cases b:c1=c2 <;>simp [a,b]
 clear hr hc
 cbv
 repeat' first | exact W1 | refine WA ?_ ?_ | with_reducible intro hcc | refine WS ?_ | refine WK hA hP ?_ | refine W6 ?_ | refine WL ?_ | fail
 all_goals try simp only [hA.sm,n_cast] at *
 all_goals first | rfl | (clear h49;grind;done) | (clear h49;simp at *;grind;done))
theorem ok42 (l l':List (Tb)) (es fs:List (List E)) (he:es=l.map tbr) (hf:fs=l'.map tbr):Plain Tryz.prog 42 [.e (.sl es),.e (.sl fs)] (.bool (decide (l=l'))):=okOf mixed p42 fun A P hA hP=>(by
 obtain ⟨r,hr⟩: ∃r:Bool,r=decide (l=l'):=⟨_,rfl⟩
 rw [<-hr]
 have hl1:es.length=l.length:=by rw [he];simp
 have hl2:fs.length=l'.length:=by rw [hf];simp
 cbv
 repeat' first | exact W1 | refine WA ?_ ?_ | with_reducible intro hcc | refine WS ?_ | refine W6 ?_ | ((with_reducible first | refine hA.Len fun z hz hb=>?_ | refine hA.Off fun b hb=>?_);cbv) | ((with_reducible first | refine hA.Sapp ?_ fun sl hsl=>?_);rotate_left;cbv) | refine WL ?_ | fail
 all_goals try simp only [hA.sm,n_cast] at *
 ·have:l≠l':=fun e=>by subst e;clear hr;grind
  rw [hr];simp [this]
 ·have hzz:es.length=fs.length:=by clear hr;grind
  refine hA.loopI (fun n s=> ∃i:Int,0<=i/\n+i=l.length/\(∀j:Nat,j<i->l[j]?=l'[j]?)/\s=⟨[(5,.int i),(4,.bool false),(0,.e (.sl es)),(1,.e (.sl fs))], []⟩) l.length _ (Weak.keep (env':= [(5,.int 0),(4,.bool false),(0,.e (.sl es)),(1,.e (.sl fs))]) ⟨rfl,rfl,rfl,rfl,trivial⟩) ⟨0,by omega,by omega,fun j hj=>by omega,rfl⟩ ?_
  rintro n s K ⟨i,h0,h1,h2,rfl⟩ hK
  by_cases hin:(0:Int)<=i/\i<es.length
  ·have hin2:(0:Int)<=i/\i<fs.length:=by omega
   obtain ⟨⟨n1,c1,rs1⟩,e1,q1⟩:=row_at he hin
   obtain ⟨⟨n2,c2,rs2⟩,e2,q2⟩:=row_at hf hin2
   obtain ⟨x1,hx1⟩: ∃x,x=rs1.map rsr:=⟨_,rfl⟩
   have e1:es.getD i.toNat []= [E.str n1,E.int c1,E.sl x1]:=e1.trans (by rw [hx1])
   obtain ⟨x2,hx2⟩: ∃x,x=rs2.map rsr:=⟨_,rfl⟩
   have e2:fs.getD i.toNat []= [E.str n2,E.int c2,E.sl x2]:=e2.trans (by rw [hx2])
   have hc:=ok94 n1 c1 rs1 x1 hx1 n2 c2 rs2 x2 hx2
   obtain ⟨c,hcc⟩: ∃c:Bool,c=decide (((n1,c1,rs1):Tb)=(n2,c2,rs2)):=⟨_,rfl⟩
   rw [<-hcc] at hc
   have c1:c=false->r=false:=fun e=>by
    rw [hr,decide_eq_false_iff_not]
    intro e'
    subst e'
    rw [q1] at q2
    cases q2
    rw [e] at hcc
    simp at hcc
   have c2:c=true->l[i.toNat]?=l'[i.toNat]?:=fun e=>by
    rw [e] at hcc
    rw [q1,q2,of_decide_eq_true hcc.symm]
   clear hcc hr
   cbv
   repeat' first | exact W1 | refine WA ?_ ?_ | with_reducible intro hcc | refine WS ?_ | refine WK hA hP ?_ | (refine hA.RowE hin e1 ?_;cbv) | (refine hA.RowE hin2 e2 ?_;cbv) | refine W6 ?_ | ((with_reducible first | refine hA.Len fun z hz hb=>?_ | refine hA.Off fun b hb=>?_);cbv) | ((with_reducible first | refine hA.Sapp ?_ fun sl hsl=>?_);rotate_left;cbv) | refine WL ?_ | fail
   all_goals try simp only [hA.sm,n_cast] at *
   all_goals first
    | omega
    | (refine hK _ (n-1) _ (by omega) (Weak.gc (env':= [(5,.int (i+1)),(4,.bool false),(0,.e (.sl es)),(1,.e (.sl fs))]) ⟨rfl,rfl,rfl,rfl,trivial⟩ rfl) ⟨i+1,by omega,by omega,fun j hj=>?_,rfl⟩
       by_cases hji:(j:Int)<i
       ·exact h2 j hji
       ·have:j=i.toNat:=by omega
        rw [this]
        exact c2 (by clear hK h2;grind))
    | (clear hK h2 he hf e1 e2;grind;done)
  ·have hll:l=l':=by
    refine List.ext_getElem? fun j=>?_
    by_cases hj:(j:Int)<i
    ·exact h2 j hj
    ·rw [List.getElem?_eq_none (by omega),List.getElem?_eq_none (by omega)]
   have hr2:r=true:=by rw [hr,hll];simp
   clear hr
   cbv
   repeat' first | exact W1 | refine WA ?_ ?_ | with_reducible intro hcc | refine WS ?_ | (exfalso;simp only [hA.lt,hA.sub,decide_eq_true_eq,decide_eq_false_iff_not,n_cast] at *;omega) | refine W6 ?_ | ((with_reducible first | refine hA.Len fun z hz hb=>?_ | refine hA.Off fun b hb=>?_);cbv) | ((with_reducible first | refine hA.Sapp ?_ fun sl hsl=>?_);rotate_left;cbv) | refine WL ?_ | fail
   all_goals try simp only [hA.sm,n_cast] at *
   all_goals first
    | (rw [hr2])
    | omega
    | (clear hK h2 hll he hf;grind;done))
theorem ok14 (ts ts':List Tb) (x x':List (List E)) (hx:x=ts.map tbr) (hx':x'=ts'.map tbr):Plain Tryz.prog 14 [.agg [.e (.sl x)],.agg [.e (.sl x')]] (.bool (decide (ts=ts'))):=okOf mixed p14 fun A P hA hP=>(by
 have h70:=ok42 ts ts' x x' hx hx'
 obtain ⟨c,hc⟩: ∃c,c=decide (ts=ts'):=⟨_,rfl⟩
 rw [<-hc] at h70 ⊢
 cbv
 repeat' first | exact W1 | refine WA ?_ ?_ | with_reducible intro hcc | refine WS ?_ | refine WK hA hP ?_ | refine W6 ?_ | refine WL ?_ | fail
 all_goals try simp only [hA.sm,n_cast] at *
 all_goals first | rfl | (clear h70 hc;grind;done))
end Go.Proofs.YtfplalbognalkaaGreat.Ab
/- Names: letters, digits, words, keys. -/
namespace Go.Proofs.YtfplalbognalkaaGreat.Ab
open Go
theorem ok232 (c:Int):Plain Tryz.prog 232 [.u8 c] (.bool (isLet c)):=okOf mixed p232 fun A P hA hP=>(by
 obtain ⟨r,hr⟩: ∃r,r=isLet c:=⟨_,rfl⟩
 rw [<-hr]
 cbv
 repeat' first | exact W1 | refine WA ?_ ?_ | with_reducible intro hcc | refine WS ?_ | refine W6 ?_ | ((with_reducible first | refine hA.gb _ _ fun vb hvb=>?_);cbv) | refine WL ?_ | fail
 all_goals try simp only [hA.sm,n_cast] at *
 all_goals (unfold isLet at hr;first | (subst hr;grind;done) | (subst hr;simp at *;grind;done) | (subst hr;congr;by_cases a:97<=c <;>by_cases b:65<=c <;>simp [a,b] <;>grind)))
theorem ok195 (c:Int):Plain Tryz.prog 195 [.u8 c] (.bool (isLet c)):=okOf mixed p195 fun A P hA hP=>(by
 obtain ⟨r,hr⟩: ∃r,r=isLet c:=⟨_,rfl⟩
 rw [<-hr]
 cbv
 repeat' first | exact W1 | refine WA ?_ ?_ | with_reducible intro hcc | refine WS ?_ | refine W6 ?_ | ((with_reducible first | refine hA.gb _ _ fun vb hvb=>?_);cbv) | refine WL ?_ | fail
 all_goals try simp only [hA.sm,n_cast] at *
 all_goals (unfold isLet at hr;first | (subst hr;grind;done) | (subst hr;simp at *;grind;done) | (subst hr;congr;by_cases a:97<=c <;>by_cases b:65<=c <;>simp [a,b] <;>grind)))
theorem ok233 (c:Int):Plain Tryz.prog 233 [.u8 c] (.bool (isDig c)):=okOf mixed p233 fun A P hA hP=>(by
 obtain ⟨r,hr⟩: ∃r,r=isDig c:=⟨_,rfl⟩
 rw [<-hr]
 cbv
 repeat' first | exact W1 | refine WA ?_ ?_ | with_reducible intro hcc | refine WS ?_ | refine W6 ?_ | ((with_reducible first | refine hA.gb _ _ fun vb hvb=>?_);cbv) | refine WL ?_ | fail
 all_goals try simp only [hA.sm,n_cast] at *
 all_goals (unfold isDig at hr;first | (subst hr;grind;done) | (subst hr;simp at *;grind;done) | (subst hr;congr;by_cases a:97<=c <;>by_cases b:65<=c <;>simp [a,b] <;>grind)))
theorem ok197 (c:Int):Plain Tryz.prog 197 [.u8 c] (.bool (isDig c)):=okOf mixed p197 fun A P hA hP=>(by
 obtain ⟨r,hr⟩: ∃r,r=isDig c:=⟨_,rfl⟩
 rw [<-hr]
 cbv
 repeat' first | exact W1 | refine WA ?_ ?_ | with_reducible intro hcc | refine WS ?_ | refine W6 ?_ | ((with_reducible first | refine hA.gb _ _ fun vb hvb=>?_);cbv) | refine WL ?_ | fail
 all_goals try simp only [hA.sm,n_cast] at *
 all_goals (unfold isDig at hr;first | (subst hr;grind;done) | (subst hr;simp at *;grind;done) | (subst hr;congr;by_cases a:97<=c <;>by_cases b:65<=c <;>simp [a,b] <;>grind)))
theorem ok212 (s:List UInt8):Plain Tryz.prog 212 [.str s] (.bool (keyB s)):=okOf mixed p212 fun A P hA hP=>(by
 obtain ⟨r,hr⟩: ∃r,r=keyB s:=⟨_,rfl⟩
 rw [<-hr]
 cbv
 repeat' first | exact W1 | refine WA ?_ ?_ | with_reducible intro hcc | refine WS ?_ | refine W6 ?_ | ((with_reducible first | refine hA.gb _ _ fun vb hvb=>?_);cbv) | refine WL ?_ | fail
 all_goals try simp only [hA.sm,n_cast] at *
 all_goals try (clear hr;grind;done)
 all_goals
  rw [hr]
  congr 3
  rw [Bool.eq_iff_iff]
  subst_vars
  first
   | (simp only [Bool.if_true_left,Bool.or_eq_true,decide_eq_true_eq,keyB,or_assoc];done)
   | (simp_all [keyB];done))
theorem ok196 (s:List UInt8):Plain Tryz.prog 196 [.str s] (.bool (keyB s)):=okOf mixed p196 fun A P hA hP=>(by
 obtain ⟨r,hr⟩: ∃r,r=keyB s:=⟨_,rfl⟩
 rw [<-hr]
 cbv
 repeat' first | exact W1 | refine WA ?_ ?_ | with_reducible intro hcc | refine WS ?_ | refine W6 ?_ | refine WL ?_ | fail
 all_goals try simp only [hA.sm,n_cast] at *
 all_goals try (clear hr;grind;done)
 all_goals
  rw [hr]
  congr 3
  rw [Bool.eq_iff_iff]
  subst_vars
  first
   | (simp only [Bool.if_true_left,Bool.or_eq_true,decide_eq_true_eq,keyB,or_assoc];done)
   | (simp_all [keyB];done))
end Go.Proofs.YtfplalbognalkaaGreat.Ab
/- The code of functions, in the small language. -/
namespace Go.Proofs.YtfplalbognalkaaGreat.Ab
open Go
def c150:F:=⟨12, [(.tmp 4)],(.seq (.reg [ZA 4 (.mov (.c (.int 0)))]) (.seq (.reg [ZM 5 1,ZM 6 0,ZA 7 (.lenl 6),ZA 8 (.bin .sub 5 7),ZM 1 8]) (.seq (.seq (.reg [ZM 9 1,ZA 10 (.bin .lss 9 (.c (.int 0)))]) (.cond 10 (.seq (.reg [ZA 4 (.mov (.c (.int (-1))))]) .ret) .skip)) (.seq (.reg [ZM 11 1,ZM 4 11]) .ret))))⟩
theorem p150:prepF Tryz.prog 150=some c150:=by kernel_rfl
def c158:F:=⟨26, [(.tmp 4)],(.seq (.reg [ZA 4 ZF0]) (.seq (.reg [ZM 5 1,ZA 6 (.bin .geq 5 (.c (.int 0))),ZM 7 6,ZT 8 7 (.mov 0),ZT 9 7 (.lenl 8),ZT 10 7 (.bin .geq 9 (.c (.int 1))),ZA 11 (.pick 7 10 (.c (.bool false))),ZM 12 11,ZT 13 12 (.mov 0),ZT 14 12 (.lenl 13),ZT 15 12 (.bin .leq 14 (.c (.int 5000))),ZA 16 (.pick 12 15 (.c (.bool false))),ZM 17 16,ZT 18 17 (.mov 0),ZT 19 17 (.mov 0),ZT 20 17 (.lenl 19),ZT 21 17 (.bin .sub 20 (.c (.int 1))),ZT 22 17 (.mov 1),ZT 23 17 (.call 213 [18,21,22]),ZT 24 17 (.bin .eql 23 (.c (.int 0))),ZA 25 (.pick 17 24 (.c (.bool false))),ZM 4 25]) .ret))⟩
theorem p158:prepF Tryz.prog 158=some c158:=by kernel_rfl
def c159:F:=⟨23, [(.tmp 2)],(.seq (.reg [ZA 2 (.mov (.c .zs))]) (.seq (.reg [ZM 5 0,ZA 6 (.lenl 5),ZA 7 (.mks [(.int 0),(.int 0)] 6),ZM 3 7]) (.seq (.seq (.reg [ZA 4 (.mov (.c (.int 0)))]) (.block 0 (.loop (.seq (.seq (.reg [ZM 8 4,ZM 9 0,ZA 10 (.lenl 9),ZA 11 (.bin .lss 8 10)]) (.cond 11 .skip (.exit 0))) (.seq (.block 1 (.reg [ZM 14 3,ZM 15 4,ZM 16 0,ZM 17 4,ZA 18 (.iadr none 2 16 17),ZA 19 (.load true 2 18),ZC 20 214 [19],ZA 21 (.iadr none 2 14 15),ZN (.store true 2 21 20)])) (.reg [ZM 12 4,ZA 13 (.bin .add 12 (.c (.int 1))),ZM 4 13])))))) (.seq (.reg [ZM 22 3,ZM 2 22]) .ret))))⟩
theorem p159:prepF Tryz.prog 159=some c159:=by kernel_rfl
def c216:F:=⟨78, [(.tmp 4)],(.seq (.reg [ZA 4 ZF0]) (.seq (.seq (.reg [ZM 9 0,ZA 10 (.lenl 9),ZA 11 (.bin .gtr 10 (.c (.int 5000))),ZM 12 11,ZF 13 12 (.mov 1),ZF 14 12 (.bin .lss 13 (.c (.int 0))),ZA 15 (.pick 12 (.c (.bool true)) 14)]) (.cond 15 (.seq (.reg [ZA 4 ZF0]) .ret) .skip)) (.seq (.reg [ZA 5 (.mov (.c (.int 0)))]) (.seq (.seq (.reg [ZM 16 0,ZA 17 (.lenl 16),ZA 18 (.mov (.c (.int 0)))]) (.block 0 (.loop (.seq (.reg [ZA 19 (.bin .lss 18 17)]) (.seq (.cond 19 .skip (.exit 0)) (.seq (.block 1 (.seq (.reg [ZA 20 (.iadr none 2 16 18),ZA 21 (.load true 2 20),ZA 7 (.alloc [(.int 0),(.int 0)]),ZN (.store true 2 7 21)]) (.seq (.reg [ZA 8 (.mov (.c (.int 0)))]) (.seq (.seq (.reg [ZE 22 0 7,ZL 23 22]) (.block 2 (.seq (.reg [ZA 25 (.bin .eql 23 (.c (.int 1))),ZM 24 25]) (.cond 24 .skip (.seq (.reg [ZA 27 (.bin .eql 23 (.c (.int 2))),ZM 26 27]) (.cond 26 (.seq (.reg [ZE 28 1 7,ZL 29 28,ZA 30 (.bin .neq 29 (.c (.int 0)))]) (.cond 30 (.seq (.reg [ZA 4 ZF0]) .ret) .skip)) (.seq (.reg [ZA 32 (.bin .eql 23 (.c (.int 3))),ZM 31 32]) (.cond 31 (.seq (.reg [ZE 33 1 7,ZL 34 33,ZA 35 (.bin .lss 34 (.c (.int 0))),ZM 36 35,ZF 37 36 (.fadr 1 7),ZF 38 36 (.load false 1 37),ZF 39 36 (.mov 1),ZF 40 36 (.bin .geq 38 39),ZA 41 (.pick 36 (.c (.bool true)) 40)]) (.cond 41 (.seq (.reg [ZA 4 ZF0]) .ret) .skip)) (.seq (.reg [ZA 43 (.bin .eql 23 (.c (.int 4))),ZM 42 43]) (.cond 42 (.seq (.reg [ZA 8 (.mov (.c (.int 2)))]) (.seq (.reg [ZE 44 1 7,ZL 45 44,ZA 46 (.bin .lss 45 (.c (.int 1))),ZM 47 46,ZF 48 47 (.fadr 1 7),ZF 49 47 (.load false 1 48),ZF 50 47 (.bin .gtr 49 (.c (.int 6))),ZA 51 (.pick 47 (.c (.bool true)) 50)]) (.cond 51 (.seq (.reg [ZA 4 ZF0]) .ret) .skip))) (.seq (.seq (.reg [ZA 53 (.bin .eql 23 (.c (.int 5))),ZM 52 53]) (.cond 52 .skip (.reg [ZA 54 (.bin .eql 23 (.c (.int 6))),ZM 52 54]))) (.cond 52 (.reg [ZA 8 (.mov (.c (.int 2)))]) (.seq (.seq (.reg [ZA 56 (.bin .eql 23 (.c (.int 7))),ZM 55 56]) (.cond 55 .skip (.reg [ZA 57 (.bin .eql 23 (.c (.int 8))),ZM 55 57]))) (.cond 55 (.reg [ZA 8 (.mov (.c (.int 1)))]) (.seq (.reg [ZA 4 ZF0]) .ret))))))))))))))) (.seq (.seq (.reg [ZE 58 0 7,ZL 59 58,ZA 60 (.bin .gtr 59 (.c (.int 4))),ZM 61 60,ZT 62 61 (.fadr 1 7),ZT 63 61 (.load false 1 62),ZT 64 61 (.bin .neq 63 (.c (.int 0))),ZA 65 (.pick 61 64 (.c (.bool false))),ZM 66 65,ZF 67 66 (.mov 5),ZF 68 66 (.mov 8),ZF 69 66 (.bin .lss 67 68),ZA 70 (.pick 66 (.c (.bool true)) 69)]) (.cond 70 (.seq (.reg [ZA 4 ZF0]) .ret) .skip)) (.reg [ZM 71 5,ZM 72 8,ZA 73 (.bin .sub (.c (.int 1)) 72),ZA 74 (.bin .add 71 73),ZM 5 74])))))) (.reg [ZA 75 (.bin .add 18 (.c (.int 1))),ZM 18 75]))))))) (.seq (.reg [ZM 76 5,ZA 77 (.bin .eql 76 (.c (.int 1))),ZM 4 77]) .ret)))))⟩
theorem p216:prepF Tryz.prog 216=some c216:=by kernel_rfl
def c166:F:=⟨27, [(.tmp 4)],(.seq (.reg [ZA 4 ZF0]) (.seq (.seq (.reg [ZM 6 0,ZA 7 (.lenl 6),ZM 8 1,ZA 9 (.lenl 8),ZA 10 (.bin .neq 7 9)]) (.cond 10 (.seq (.reg [ZA 4 ZF0]) .ret) .skip)) (.seq (.seq (.reg [ZA 5 (.mov (.c (.int 0)))]) (.block 0 (.loop (.seq (.seq (.reg [ZM 11 5,ZM 12 0,ZA 13 (.lenl 12),ZA 14 (.bin .lss 11 13)]) (.cond 14 .skip (.exit 0))) (.seq (.block 1 (.seq (.dreg [⟨ZM 17 0, [], [0]⟩,⟨ZM 18 5, [0], [5]⟩,⟨ZA 19 (.iadr none 2 17 18), [], [17,18]⟩,⟨ZA 20 (.load true 2 19), [], [19]⟩,⟨ZM 21 1, [0,1,2,3], [1]⟩,⟨ZM 22 5, [0,1,2,3,4], [5]⟩,⟨ZA 23 (.iadr none 2 21 22), [0,1,2,3], [21,22]⟩,⟨ZA 24 (.load true 2 23), [0,1,2,3], [23]⟩,⟨ZC 25 219 [20,24], [], [20,24]⟩,⟨ZA 26 (.un .not 25), [], [25]⟩]) (.cond 26 (.seq (.reg [ZA 4 ZF0]) .ret) .skip))) (.reg [ZM 15 5,ZA 16 (.bin .add 15 (.c (.int 1))),ZM 5 16])))))) (.seq (.reg [ZA 4 ZT0]) .ret))))⟩
theorem p166:prepF Tryz.prog 166=some c166:=by kernel_rfl
def c213:F:=⟨34, [(.tmp 6)],(.seq (.reg [ZA 6 (.mov (.c (.int 0)))]) (.seq (.reg [ZA 7 (.mov (.c (.int 1)))]) (.seq (.block 0 (.loop (.seq (.seq (.reg [ZM 8 7,ZA 9 (.bin .gtr 8 (.c (.int 0)))]) (.cond 9 .skip (.exit 0))) (.block 1 (.seq (.seq (.reg [ZM 10 1,ZA 11 (.bin .lss 10 (.c (.int 0))),ZM 12 11,ZF 13 12 (.mov 0),ZF 14 12 (.mov 1),ZF 15 12 (.iadr none 2 13 14),ZF 16 12 (.load true 2 15),ZF 17 12 (.mov 2),ZF 18 12 (.call 234 [16,17]),ZF 19 12 (.bin .lss 18 (.c (.int 0))),ZA 20 (.pick 12 (.c (.bool true)) 19)]) (.cond 20 (.seq (.reg [ZA 6 (.mov (.c (.int (-1))))]) .ret) .skip)) (.seq (.reg [ZM 21 7,ZA 22 (.bin .sub 21 (.c (.int 1))),ZM 23 0,ZM 24 1,ZA 25 (.iadr none 2 23 24),ZA 26 (.load true 2 25),ZM 27 2,ZC 28 234 [26,27],ZA 29 (.bin .add 22 28),ZM 7 29]) (.reg [ZM 30 1,ZA 31 (.bin .sub 30 (.c (.int 1))),ZM 1 31]))))))) (.seq (.reg [ZM 32 1,ZA 33 (.bin .add 32 (.c (.int 1))),ZM 6 33]) .ret))))⟩
theorem p213:prepF Tryz.prog 213=some c213:=by kernel_rfl
def c214:F:=⟨11, [(.cell 2 true 2)],(.seq (.reg [ZA 1 (.box 0),ZA 2 (.alloc [(.int 0),(.int 0)])]) (.seq (.reg [ZA 3 (.alloc [(.int 0),(.int 0)])]) (.seq (.reg [ZE 4 0 1,ZL 5 4,ZE 6 0 3,ZN (.store false 1 6 5)]) (.seq (.reg [ZE 7 1 1,ZL 8 7,ZE 9 1 3,ZN (.store false 1 9 8)]) (.seq (.reg [ZA 10 (.load true 2 3),ZN (.store true 2 2 10)]) .ret)))))⟩
theorem p214:prepF Tryz.prog 214=some c214:=by kernel_rfl
def c219:F:=⟨15, [(.tmp 4)],(.seq (.reg [ZA 2 (.box 0),ZA 3 (.box 1),ZA 4 ZF0]) (.seq (.seq (.reg [ZE 5 0 2,ZL 6 5,ZE 7 0 3,ZL 8 7,ZA 9 (.bin .neq 6 8)]) (.cond 9 (.seq (.reg [ZA 4 ZF0]) .ret) .skip)) (.seq (.seq (.reg [ZE 10 1 2,ZL 11 10,ZE 12 1 3,ZL 13 12,ZA 14 (.bin .neq 11 13)]) (.cond 14 (.seq (.reg [ZA 4 ZF0]) .ret) .skip)) (.seq (.reg [ZA 4 ZT0]) .ret))))⟩
theorem p219:prepF Tryz.prog 219=some c219:=by kernel_rfl
def c234:F:=⟨71, [(.tmp 4)],(.seq (.reg [ZA 2 (.box 0),ZA 4 (.mov (.c (.int 0)))]) (.seq (.seq (.reg [ZE 5 0 2,ZL 6 5,ZA 7 (.bin .eql 6 (.c (.int 1))),ZM 8 7,ZF 9 8 (.fadr 0 2),ZF 10 8 (.load false 1 9),ZF 11 8 (.bin .eql 10 (.c (.int 2))),ZF 12 8 (.mov 11),ZT 13 12 (.fadr 1 2),ZT 14 12 (.load false 1 13),ZT 15 12 (.bin .eql 14 (.c (.int 0))),ZF 16 8 (.pick 12 15 (.c (.bool false))),ZA 17 (.pick 8 (.c (.bool true)) 16)]) (.cond 17 (.seq (.reg [ZA 4 (.mov (.c (.int 0)))]) .ret) .skip)) (.seq (.seq (.reg [ZE 18 0 2,ZL 19 18,ZA 20 (.bin .eql 19 (.c (.int 3))),ZM 21 20,ZT 22 21 (.fadr 1 2),ZT 23 21 (.load false 1 22),ZT 24 21 (.bin .geq 23 (.c (.int 0))),ZA 25 (.pick 21 24 (.c (.bool false))),ZM 26 25,ZT 27 26 (.fadr 1 2),ZT 28 26 (.load false 1 27),ZT 29 26 (.mov 1),ZT 30 26 (.bin .lss 28 29),ZA 31 (.pick 26 30 (.c (.bool false)))]) (.cond 31 (.seq (.reg [ZA 4 (.mov (.c (.int 0)))]) .ret) .skip)) (.seq (.seq (.reg [ZE 32 0 2,ZL 33 32,ZA 34 (.bin .eql 33 (.c (.int 4))),ZM 35 34,ZT 36 35 (.fadr 1 2),ZT 37 35 (.load false 1 36),ZT 38 35 (.bin .geq 37 (.c (.int 1))),ZA 39 (.pick 35 38 (.c (.bool false))),ZM 40 39,ZT 41 40 (.fadr 1 2),ZT 42 40 (.load false 1 41),ZT 43 40 (.bin .leq 42 (.c (.int 6))),ZA 44 (.pick 40 43 (.c (.bool false)))]) (.cond 44 (.seq (.reg [ZA 4 (.mov (.c (.int 2)))]) .ret) .skip)) (.seq (.seq (.reg [ZE 45 0 2,ZL 46 45,ZA 47 (.bin .eql 46 (.c (.int 5))),ZM 48 47,ZF 49 48 (.fadr 0 2),ZF 50 48 (.load false 1 49),ZF 51 48 (.bin .eql 50 (.c (.int 6))),ZA 52 (.pick 48 (.c (.bool true)) 51),ZM 53 52,ZT 54 53 (.fadr 1 2),ZT 55 53 (.load false 1 54),ZT 56 53 (.bin .eql 55 (.c (.int 0))),ZA 57 (.pick 53 56 (.c (.bool false)))]) (.cond 57 (.seq (.reg [ZA 4 (.mov (.c (.int 2)))]) .ret) .skip)) (.seq (.seq (.reg [ZE 58 0 2,ZL 59 58,ZA 60 (.bin .eql 59 (.c (.int 7))),ZM 61 60,ZF 62 61 (.fadr 0 2),ZF 63 61 (.load false 1 62),ZF 64 61 (.bin .eql 63 (.c (.int 8))),ZA 65 (.pick 61 (.c (.bool true)) 64),ZM 66 65,ZT 67 66 (.fadr 1 2),ZT 68 66 (.load false 1 67),ZT 69 66 (.bin .eql 68 (.c (.int 0))),ZA 70 (.pick 66 69 (.c (.bool false)))]) (.cond 70 (.seq (.reg [ZA 4 (.mov (.c (.int 1)))]) .ret) .skip)) (.seq (.reg [ZA 4 (.mov (.c (.int (-1))))]) .ret)))))))⟩
theorem p234:prepF Tryz.prog 234=some c234:=by kernel_rfl
end Go.Proofs.YtfplalbognalkaaGreat.Ab
/- Rows of operations: sizes, copies, alike. -/
namespace Go.Proofs.YtfplalbognalkaaGreat.Ab
open Go
abbrev orow (p:Int×Int):List E:= [E.int p.1,E.int p.2]
abbrev dOp (k n:Int):D:= .agg [.int k,.int n]
theorem row_op {l:List (Int×Int)} {es:List (List E)} (he:es=l.map orow) {n:Int} (h:0<=n/\n<es.length): ∃p,es.getD n.toNat []=orow p/\l[n.toNat]?=some p:=by
 subst he
 have hn:n.toNat<l.length:=by simp at h;omega
 exact ⟨l[n.toNat],by simp [List.getD,hn],by simp [hn]⟩
theorem ok214 (b v:Int):Plain Tryz.prog 214 [dOp b v] (dOp b v):=okOf mixed p214 fun A P hA hP=>(by
 cbv
 repeat' first | exact W1 | refine WA ?_ ?_ | with_reducible intro hcc | refine WS ?_ | refine W6 ?_ | ((with_reducible first | refine hA.Sto ?_ fun ds hds=>?_);rotate_left;cbv) | refine WL ?_ | fail
 all_goals try simp only [hA.sm,n_cast] at *
 )
theorem ok219 (b v b' v':Int):Plain Tryz.prog 219 [dOp b v,dOp b' v'] (.bool (decide (b=b'/\v=v'))):=okOf mixed p219 fun A P hA hP=>(by
 cbv
 repeat' first | exact W1 | refine WA ?_ ?_ | with_reducible intro hcc | refine WS ?_ | refine W6 ?_ | refine WL ?_ | fail
 all_goals try simp only [hA.sm,n_cast] at *
 all_goals grind)
theorem ok150 (es:List (List E)) (left:Int) (h:0<=left/\left<=1048576):Plain Tryz.prog 150 [.e (.sl es),.int left] (.int (if left-es.length<0 then-1 else left-es.length)):=okOf mixed p150 fun A P hA hP=>(by
 obtain ⟨r,hr⟩: ∃r:Int,r=if left-es.length<0 then-1 else left-es.length:=⟨_,rfl⟩
 rw [<-hr]
 cbv
 repeat' first | exact W1 | refine WA ?_ ?_ | with_reducible intro hcc | refine WS ?_ | refine W6 ?_ | ((with_reducible first | refine hA.Len fun z hz hb=>?_);cbv) | refine WL ?_ | fail
 all_goals try simp only [hA.sm,n_cast] at *
 all_goals grind)
theorem ok166 (l l':List (Int×Int)) (es fs:List (List E)) (he:es=l.map orow) (hf:fs=l'.map orow):Plain Tryz.prog 166 [.e (.sl es),.e (.sl fs)] (.bool (decide (l=l'))):=okOf mixed p166 fun A P hA hP=>(by
 obtain ⟨r,hr⟩: ∃r:Bool,r=decide (l=l'):=⟨_,rfl⟩
 rw [<-hr]
 have hl1:es.length=l.length:=by rw [he];simp
 have hl2:fs.length=l'.length:=by rw [hf];simp
 cbv
 repeat' first | exact W1 | refine WA ?_ ?_ | with_reducible intro hcc | refine WS ?_ | ((with_reducible first | refine callK_f hA hP (ok219 _ _ _ _) ?_ ?_ ?_);exact rfl;exact rfl;cbv) | refine W6 ?_ | ((with_reducible first | refine hA.Len fun z hz hb=>?_ | refine hA.Off fun b hb=>?_);cbv) | ((with_reducible first | refine hA.Sapp ?_ fun sl hsl=>?_);rotate_left;cbv) | refine WL ?_ | fail
 all_goals try simp only [hA.sm,n_cast] at *
 ·have:l≠l':=fun e=>by subst e;grind
  rw [hr];simp [this]
 ·have hzz:es.length=fs.length:=by grind
  refine hA.loopI (fun n s=> ∃i:Int,0<=i/\n+i=l.length/\(∀j:Nat,j<i->l[j]?=l'[j]?)/\s=⟨[(5,.int i),(4,.bool false),(0,.e (.sl es)),(1,.e (.sl fs))], []⟩) l.length _ (Weak.keep (env':= [(5,.int 0),(4,.bool false),(0,.e (.sl es)),(1,.e (.sl fs))]) ⟨rfl,rfl,rfl,rfl,trivial⟩) ⟨0,by omega,by omega,fun j hj=>by omega,rfl⟩ ?_
  rintro n s K ⟨i,h0,h1,h2,rfl⟩ hK
  cbv
  repeat' first | exact W1 | refine WA ?_ ?_ | with_reducible intro hcc | refine WS ?_ | ((with_reducible first | refine callK_f hA hP (ok219 _ _ _ _) ?_ ?_ ?_);exact rfl;exact rfl;cbv) | ((with_reducible refine hA.row es _ _ ?_);have hin:(0:Int)<=i/\i<es.length:=(by simp only [hA.lt,decide_eq_true_eq,n_cast] at *;omega);obtain ⟨⟨b1,v1⟩,e1,q1⟩:=row_op he hin;refine ⟨hin,fun row hrow=>?_⟩;rw [e1] at hrow;subst hrow;cbv) | ((with_reducible refine hA.row fs _ _ ?_);have hin:(0:Int)<=i/\i<fs.length:=(by simp only [hA.lt,decide_eq_true_eq,n_cast] at *;omega);obtain ⟨⟨b2,v2⟩,e2,q2⟩:=row_op hf hin;refine ⟨hin,fun row hrow=>?_⟩;rw [e2] at hrow;subst hrow;cbv) | refine W6 ?_ | ((with_reducible first | refine hA.Len fun z hz hb=>?_ | refine hA.Off fun b hb=>?_);cbv) | ((with_reducible first | refine hA.Sapp ?_ fun sl hsl=>?_);rotate_left;cbv) | refine WL ?_ | fail
  all_goals try simp only [hA.sm,n_cast] at *
  ·have hne:l≠l':=fun e=>by
    subst e
    rw [q1] at q2
    simp only [Option.some.injEq,Prod.mk.injEq] at q2
    simp_all
   rw [hr];simp [hne]
  ·have:=hb trivial trivial trivial
   omega
  ·have hbv:b1=b2/\v1=v2:=by grind
   refine hK _ (n-1) _ (by omega) (Weak.keep (env':= [(5,.int (i+1)),(4,.bool false),(0,.e (.sl es)),(1,.e (.sl fs))]) ⟨rfl,rfl,rfl,rfl,trivial⟩) ⟨i+1,by omega,by omega,fun j hj=>?_,rfl⟩
   by_cases hji:(j:Int)<i
   ·exact h2 j hji
   ·have:j=i.toNat:=by omega
    rw [this,q1,q2,hbv.1,hbv.2]
  ·have hll:l=l':=by
    refine List.ext_getElem? fun j=>?_
    by_cases hj:(j:Int)<i
    ·exact h2 j hj
    ·rw [List.getElem?_eq_none (by grind),List.getElem?_eq_none (by grind)]
   rw [hr];simp [hll])
theorem ok159 (l:List (Int×Int)) (es:List (List E)) (he:es=l.map orow) (hlen:es.length<=1048576):Plain Tryz.prog 159 [.e (.sl es)] (.e (.sl es)):=okOf mixed p159 fun A P hA hP=>(by
 have hl1:es.length=l.length:=by rw [he];simp
 have hes: ∀e∈es,e.length=2:=by
  rw [he]
  intro e h
  obtain ⟨p,_,rfl⟩:=List.mem_map.1 h
  rfl
 cbv
 repeat' first | exact W1 | refine WA ?_ ?_ | with_reducible intro hcc | refine WS ?_ | ((with_reducible first | refine callK_f hA hP (ok214 _ _) ?_ ?_ ?_);exact rfl;exact rfl;cbv) | refine W6 ?_ | ((with_reducible first | refine hA.Len fun z hz hb=>?_ | refine hA.Off fun b hb=>?_ | refine hA.Rep fun ds m hds hm=>?_);cbv) | ((with_reducible first | refine hA.Sto ?_ fun ds hds=>?_ | refine hA.Sapp ?_ fun sl hsl=>?_);rotate_left;cbv) | refine WL ?_ | fail
 all_goals try simp only [hA.sm,n_cast] at *
 ·omega
 ·omega
 ·refine hA.loopI (fun n s=> ∃(i:Int) (xs:List (List E)),0<=i/\n+i=es.length/\xs.length=es.length/\(∀e∈xs,e.length=2)/\(∀j:Nat,j<i->xs[j]?=es[j]?)/\
    s=⟨[(4,.int i),(3,.bs 0 0 m 2),(2,.zs),(0,.e (.sl es))], [.box (xs.flatten.map .e)]⟩) es.length _
   (Weak.keep (env':= [(4,.int 0),(3,.bs 0 0 m 2),(2,.zs),(0,.e (.sl es))]) ⟨rfl,rfl,rfl,rfl,trivial⟩)
   ⟨0,List.replicate m [E.int 0,E.int 0],by omega,by omega,by simp;omega,by simp,fun j hj=>by omega,by rw [<-buf_zero,hm];rw [hds];rfl⟩ ?_
  rintro n s K ⟨i,xs,h0,h1,h2,h3,h4,rfl⟩ hK
  obtain ⟨ys,hys⟩: ∃ys,ys=xs.flatten.map D.e:=⟨_,rfl⟩
  rw [<-hys]
  cbv
  repeat' first | exact W1 | refine WA ?_ ?_ | with_reducible intro hcc | refine WS ?_ | ((with_reducible first | refine callK_f hA hP (ok214 _ _) ?_ ?_ ?_);exact rfl;exact rfl;cbv) | ((with_reducible refine hA.fin_bs (es:=es) ?_ ?_ hes)) | ((with_reducible refine hA.row es _ _ ?_);have hin:(0:Int)<=i/\i<es.length:=(by simp only [hA.lt,decide_eq_true_eq,n_cast] at *;omega);obtain ⟨⟨b1,v1⟩,e1,q1⟩:=row_op he hin;refine ⟨hin,fun row hrow=>?_⟩;rw [e1] at hrow;subst hrow;cbv) | refine W6 ?_ | ((with_reducible first | refine hA.Len fun z hz hb=>?_ | refine hA.Off fun b hb=>?_ | refine hA.Rep fun ds m hds hm=>?_);cbv) | ((with_reducible first | refine hA.Sto ?_ fun ds hds=>?_ | refine hA.Sapp ?_ fun sl hsl=>?_);rotate_left;cbv) | refine WL ?_ | fail
  all_goals try simp only [hA.sm,n_cast] at *
  ·exact h0
  ·show i<(m:Int)
   omega
  ·omega
  ·have hb':b=i.toNat * 2:=by omega
   have hrow:es[i.toNat]?=some [E.int b1,E.int v1]:=by
    have:i.toNat<es.length:=by omega
    rw [<-e1];simp [List.getD,this]
   refine hK _ (n-1) _ (by omega) (Weak.keep (env':= [(4,.int (i+1)),(3,.bs 0 0 m 2),(2,.zs),(0,.e (.sl es))]) ⟨rfl,rfl,rfl,rfl,trivial⟩)
    ⟨i+1,xs.set i.toNat [E.int b1,E.int v1],by omega,by omega,by simp [h2],?_,fun j hj=>?_,?_⟩
   ·intro e h
    rcases List.mem_or_eq_of_mem_set h with h | rfl
    ·exact h3 e h
    ·rfl
   ·by_cases hji:(j:Int)<i
    ·rw [List.getElem?_set_ne (show i.toNat≠j by omega)];exact h4 j hji
    ·have:j=i.toNat:=by omega
     subst this
     rw [List.getElem?_set_self (show i.toNat<xs.length by omega),hrow]
   ·congr 2
    rw [hds,hys,hb']
    congr 1
    exact buf_set (k:=2) (by omega) h3 (i:=i.toNat) (show i.toNat<xs.length by omega) (r:= [E.int b1,E.int v1]) rfl
  ·have:ys.length=xs.length * 2:=by rw [hys,List.length_map,flatten_len h3]
   omega
  ·have hxe:xs=es:=by
    refine List.ext_getElem? fun j=>?_
    by_cases hj:(j:Int)<i
    ·exact h4 j hj
    ·rw [List.getElem?_eq_none (by grind),List.getElem?_eq_none (by grind)]
   rw [hys,hxe];rfl
  ·omega)
end Go.Proofs.YtfplalbognalkaaGreat.Ab
/- Expressions: what an operation takes. -/
namespace Go.Proofs.YtfplalbognalkaaGreat.Ab
open Go
def takes (o:Int×Int) (w:Int):Int:=
 if o.1=1\/(o.1=2/\o.2=0) then 0 else if o.1=3/\0<=o.2/\o.2<w then 0 else if o.1=4/\1<=o.2/\o.2<=6 then 2
 else if (o.1=5\/o.1=6)/\o.2=0 then 2 else if (o.1=7\/o.1=8)/\o.2=0 then 1 else-1
theorem takes_le (o:Int×Int) (w:Int): -1<=takes o w/\takes o w<=2:=by unfold takes;grind
theorem ok234 (k n w:Int):Plain Tryz.prog 234 [dOp k n,.int w] (.int (takes (k,n) w)):=okOf mixed p234 fun A P hA hP=>(by
 obtain ⟨r,hr⟩: ∃r,r=takes (k,n) w:=⟨_,rfl⟩
 rw [<-hr]
 cbv
 repeat' first | exact W1 | refine WA ?_ ?_ | with_reducible intro hcc | refine WS ?_ | refine W6 ?_ | ((with_reducible first | refine hA.gb _ _ fun vb hvb=>?_);cbv) | refine WL ?_ | fail
 all_goals try simp only [hA.sm,n_cast] at *
 all_goals subst hr
 all_goals try simp only [takes]
 all_goals try simp at *
 all_goals grind)
end Go.Proofs.YtfplalbognalkaaGreat.Ab
/- Expressions: which are valid, forwards and backwards. -/
namespace Go.Proofs.YtfplalbognalkaaGreat.Ab
open Go
def fw (w:Int):List (Int×Int)->Int->Int
 | [],h=>h
 | o::r,h=>if takes o w<0\/h<takes o w then-1 else fw w r (h+1-takes o w)
def back (l:List (Int×Int)) (w:Int):Nat->Int->Int
 | 0,need=>if need<=0 then 0 else-1
 | n+1,need=>if need<=0 then n+1 else if takes (l.getD n (0,0)) w<0 then-1 else back l w n (need-1+takes (l.getD n (0,0)) w)
theorem fw_snoc (w:Int) (l:List (Int×Int)) (o:Int×Int): ∀h:Int,0<=h->fw w (l++ [o]) h=if fw w l h<0 then-1 else if takes o w<0\/fw w l h<takes o w then-1 else fw w l h+1-takes o w:=by
 induction l with
 | nil=>intro h h0;show (if takes o w<0\/h<takes o w then-1 else h+1-takes o w)=if h<0 then-1 else _;rw [if_neg (show¬h<0 by omega)];rfl
 | cons p l ih=>
  intro h h0
  by_cases c:takes p w<0\/h<takes p w
  ·have e1:fw w (p::l) h= -1:=if_pos c
   have e2:fw w (p::(l++ [o])) h= -1:=if_pos c
   rw [List.cons_append,e1,e2];rfl
  ·have e1:fw w (p::l) h=fw w l (h+1-takes p w):=if_neg c
   have e2:fw w (p::(l++ [o])) h=fw w (l++ [o]) (h+1-takes p w):=if_neg c
   rw [List.cons_append,e1,e2];exact ih _ (by omega)
theorem fw_ge (w:Int) (l:List (Int×Int)): ∀h:Int,0<=h-> -1<=fw w l h/\(l≠ []->fw w l h≠0):=by
 induction l with
 | nil=>intro h h0;simp only [fw];exact ⟨by omega,fun e=>absurd rfl e⟩
 | cons p l ih=>
  intro h h0
  simp only [fw]
  split
  ·exact ⟨by omega,fun _=>by omega⟩
  ·rename_i c
   obtain ⟨a,b⟩:=ih (h+1-takes p w) (by omega)
   refine ⟨a,fun _=>?_⟩
   cases l with
   | nil=>simp only [fw];omega
   | cons q l=>exact b (by simp)
theorem back_fw (w:Int) (l:List (Int×Int)): ∀(n:Nat),n<=l.length-> ∀need:Int,1<=need->(back l w n need=0 ↔ fw w (l.take n) 0=need):=by
 intro n
 induction n with
 | zero=>intro _ need h;simp only [back,List.take_zero,fw];rw [if_neg (by omega)];omega
 | succ n ih=>
  intro hn need h
  have hlt:n<l.length:=by omega
  have e1:l.getD n (0,0)=l[n]:=by simp [List.getD,hlt]
  have e2:l.take (n+1)=l.take n++ [l[n]]:=by rw [List.take_add_one];simp [hlt]
  obtain ⟨g1,g2⟩:=fw_ge w (l.take n) 0 (Int.le_refl _)
  have tl:=takes_le l[n] w
  rw [e2,fw_snoc w _ _ 0 (Int.le_refl _)]
  simp only [back]
  rw [if_neg (by omega),e1]
  generalize takes l[n] w=t at *
  generalize hv:fw w (l.take n) 0=v at *
  by_cases ct:t<0
  ·rw [if_pos ct,if_pos (show t<0\/v<t from .inl ct)];split <;>omega
  ·rw [if_neg ct]
   by_cases c2:1<=need-1+t
   ·rw [ih (by omega) _ c2]
    split
    ·omega
    ·split <;>omega
   ·have hz:back l w n (need-1+t)=n:=by
     cases n with
     | zero=>simp only [back];rw [if_pos (by omega)];rfl
     | succ n=>simp only [back];rw [if_pos (by omega)];rfl
    rw [hz]
    have hnn:(n+1:Int)≠0:=by omega
    have hv0:v=0 ↔ n=0:=by
     constructor
     ·intro e
      rcases Nat.eq_zero_or_pos n with h0 | h0
      ·exact h0
      ·exact absurd e (g2 (fun e=>by have q:(l.take n).length=0:=(by rw [e];rfl);rw [List.length_take] at q;omega))
     ·intro e;subst e;simp [fw] at hv;exact hv.symm
    split
    ·omega
    ·split
     ·omega
     ·have:(n:Int)=0 ↔ v=0:=by omega
      omega
def exOk (l:List (Int×Int)) (w:Int):Bool:=decide (0<=w/\1<=l.length/\l.length<=5000/\back l w l.length 1=0)
theorem exOk_fw (l:List (Int×Int)) (w:Int):exOk l w=decide (l.length<=5000/\0<=w/\fw w l 0=1):=by
 have h:=back_fw w l l.length (Nat.le_refl _) 1 (Int.le_refl _)
 rw [List.take_length] at h
 unfold exOk
 have:fw w l 0=1->1<=l.length:=fun e=>by cases l <;>simp [fw] at e ⊢
 rw [decide_eq_decide]
 constructor
 ·rintro ⟨a,b,c,d⟩;exact ⟨c,a,h.1 d⟩
 ·rintro ⟨c,a,d⟩;exact ⟨a,this d,c,h.2 d⟩
theorem ok213 (l:List (Int×Int)) (es:List (List E)) (he:es=l.map orow) (hlen:es.length<=1048576) (n:Nat) (hn:n<=l.length) (i w:Int) (hi:i=n-1):Plain Tryz.prog 213 [.e (.sl es),.int i,.int w] (.int (back l w n 1)):=okOf mixed p213 fun A P hA hP=>(by
 have hl1:es.length=l.length:=by rw [he];simp
 obtain ⟨r,hr⟩: ∃r,r=back l w n 1:=⟨_,rfl⟩
 rw [<-hr]
 cbv
 repeat' first | exact W1 | refine WA ?_ ?_ | with_reducible intro hcc | refine WS ?_ | refine W6 ?_ | ((with_reducible first | refine hA.Off fun b hb=>?_ | refine hA.gb _ _ fun vb hvb=>?_);cbv) | ((with_reducible first | refine hA.Sapp ?_ fun sl hsl=>?_);rotate_left;cbv) | refine WL ?_ | fail
 all_goals try simp only [hA.sm,n_cast] at *
 refine hA.loopI (fun m s=> ∃(need i:Int),i=m-1/\m<=n/\0<=need/\need<=1+2 * (n-m)/\r=back l w m need/\s=⟨[(7,.int need),(1,.int i),(0,.e (.sl es)),(2,.int w)], []⟩) n _
  (Weak.keep (env':= [(7,.int 1),(1,.int i),(0,.e (.sl es)),(2,.int w)]) ⟨rfl,rfl,rfl,rfl,trivial⟩) ⟨1,i,hi,Nat.le_refl _,by omega,by omega,hr,rfl⟩ ?_
 rintro m s K ⟨need,i,hi,h0,h1,h2,h3,rfl⟩ hK
 cases m with
 | zero=>
  have hlt:A.lt i 0=true:=by rw [hA.lt];simp [hi]
  have hr2:r=if need<=0 then 0 else-1:=h3
  clear h3
  cbv
  repeat' first | exact W1 | refine WA ?_ ?_ | with_reducible intro hcc | refine WS ?_ | (simp only [hlt];cbv) | ((with_reducible refine hA.row0 _ _ _ fun p row=>?_);cbv) | ((with_reducible refine callK_no hA (.int 0) ?_);cbv) | refine W6 ?_ | ((with_reducible first | refine hA.Off fun b hb=>?_ | refine hA.gb _ _ fun vb hvb=>?_);cbv) | ((with_reducible first | refine hA.Sapp ?_ fun sl hsl=>?_);rotate_left;cbv) | refine WL ?_ | fail
  all_goals try simp only [hA.sm,n_cast] at *
  all_goals first
   | (clear hK;grind;done)
 | succ m=>
  have hlt:A.lt i 0=false:=by rw [hA.lt];simp [hi]
  have hm:m<l.length:=by omega
  have hin:(0:Int)<=i/\i<es.length:=by omega
  obtain ⟨⟨k,v⟩,e1,q1⟩:=row_op he hin
  have e2:l.getD m (0,0)=(k,v):=by
   have:i.toNat=m:=by omega
   rw [this] at q1
   simp [List.getD,q1]
  obtain ⟨tk,htk⟩: ∃tk,tk=takes (k,v) w:=⟨_,rfl⟩
  have h85:=ok234 k v w
  have tl:=takes_le (k,v) w
  rw [<-htk] at h85 tl
  have hr2:r=if need<=0 then ((m+1:Nat):Int) else if tk<0 then-1 else back l w m (need-1+tk):=by
   rw [h3,back,e2,<-htk];rfl
  obtain ⟨b,hb⟩: ∃b,b=back l w m (need-1+tk):=⟨_,rfl⟩
  rw [<-hb] at hr2
  clear h3 hr htk
  cbv
  repeat' first | exact W1 | refine WA ?_ ?_ | with_reducible intro hcc | refine WS ?_ | (simp only [hlt];cbv) | (refine hA.RowE hin e1 ?_;cbv) | refine WK hA hP ?_ | refine W6 ?_ | ((with_reducible first | refine hA.Off fun b hb=>?_ | refine hA.gb _ _ fun vb hvb=>?_);cbv) | ((with_reducible first | refine hA.Sapp ?_ fun sl hsl=>?_);rotate_left;cbv) | refine WL ?_ | fail
  all_goals try simp only [hA.sm,n_cast] at *
  all_goals first
   | omega
   | (clear hK;grind;done)
   | (refine hK _ m _ (by omega) (Weak.keep (env':= [(7,.int (need-1+tk)),(1,.int (i-1)),(0,.e (.sl es)),(2,.int w)]) ⟨rfl,rfl,rfl,rfl,trivial⟩) ⟨need-1+tk,i-1,by omega,by omega,by grind,by grind,by grind,rfl⟩))
end Go.Proofs.YtfplalbognalkaaGreat.Ab
/- Expressions: valid, by the specification and by the program. -/
namespace Go.Proofs.YtfplalbognalkaaGreat.Ab
open Go
theorem ok158 (l:List (Int×Int)) (es:List (List E)) (he:es=l.map orow) (hlen:es.length<=1048576) (w:Int):Plain Tryz.prog 158 [.e (.sl es),.int w] (.bool (exOk l w)):=okOf mixed p158 fun A P hA hP=>(by
 have hl1:es.length=l.length:=by rw [he];simp
 obtain ⟨b,hb⟩: ∃b,b=back l w l.length 1:=⟨_,rfl⟩
 have h62:=fun i=>ok213 l es he hlen l.length (Nat.le_refl _) i w
 rw [<-hb] at h62
 obtain ⟨r,hr⟩: ∃r,r=exOk l w:=⟨_,rfl⟩
 rw [<-hr]
 have hr2:r=decide (0<=w/\1<=es.length/\es.length<=5000/\b=0):=by rw [hr,hb,hl1];rfl
 clear hr hb
 cbv
 repeat' first | exact W1 | refine WA ?_ ?_ | with_reducible intro hcc | refine WS ?_ | ((with_reducible refine callK_eq hA hP ?_ ?_ ?_ (Wks.refl _) (fun _ _=>h62 _ ?_));exact rfl;exact rfl;cbv) | refine W6 ?_ | ((with_reducible first | refine hA.Len fun z hz hb=>?_ | refine hA.gb _ _ fun vb hvb=>?_);cbv) | refine WL ?_ | fail
 all_goals try simp only [hA.sm,n_cast] at *
 all_goals first | omega | (simp at *;grind))
theorem fw_drop {w:Int} {l:List (Int×Int)} {i:Nat} {p:Int×Int} (h:l[i]?=some p) (x:Int):fw w (l.drop i) x=if takes p w<0\/x<takes p w then-1 else fw w (l.drop (i+1)) (x+1-takes p w):=by
 obtain ⟨a,b⟩:=List.getElem?_eq_some_iff.1 h
 rw [List.drop_eq_getElem_cons a,b]
 rfl
theorem ok216 (l:List (Int×Int)) (es:List (List E)) (he:es=l.map orow) (hlen:es.length<=1048576) (w:Int):Plain Tryz.prog 216 [.e (.sl es),.int w] (.bool (exOk l w)):=okOf mixed p216 fun A P hA hP=>(by
 have hl1:es.length=l.length:=by rw [he];simp
 obtain ⟨r,hr⟩: ∃r,r=exOk l w:=⟨_,rfl⟩
 rw [<-hr]
 obtain ⟨c,hc⟩: ∃c:Bool,c=decide (fw w l 0=1):=⟨_,rfl⟩
 have hr2:r=(decide (es.length<=5000/\0<=w)&&c):=by rw [hr,hc,hl1,exOk_fw];by_cases a:l.length<=5000 <;>by_cases b:0<=w <;>simp [a,b]
 clear hr
 cbv
 repeat' first | exact W1 | refine WA ?_ ?_ | with_reducible intro hcc | refine WS ?_ | refine W6 ?_ | ((with_reducible first | refine hA.Len fun z hz hb=>?_ | refine hA.Off fun b hb=>?_ | refine hA.Plus fun b hb=>?_ | refine hA.gb _ _ fun vb hvb=>?_);cbv) | ((with_reducible first | refine hA.Sto ?_ fun ds hds=>?_ | refine hA.Sapp ?_ fun sl hsl=>?_);rotate_left;cbv) | refine WL ?_ | fail
 all_goals try simp only [hA.sm,n_cast] at *
 all_goals try (first | omega | (clear hc;grind;done) | (clear hc;simp at *;grind;done))
 ·have hrc:r=c:=by clear hc;simp at *;grind
  refine hA.loopI (fun n s=> ∃i h:Int,0<=i/\n+i=es.length/\0<=h/\h<=i/\r=decide (fw w (l.drop i.toNat) h=1)/\
   s=⟨[(18,.int i),(17,.int z),(16,.e (.sl es)),(5,.int h),(4,.bool false),(1,.int w)], []⟩) es.length _
   (Weak.keep (env':= [(18,.int 0),(17,.int _),(16,.e (.sl es)),(5,.int 0),(4,.bool false),(1,.int w)]) ⟨rfl,rfl,rfl,rfl,rfl,rfl,trivial⟩) ⟨0,0,by omega,by omega,by omega,by omega,by rw [hrc,hc];rfl,by rfl⟩ ?_
  rintro n s K ⟨i,h,h0,h1,h2,h3,h4,rfl⟩ hK
  by_cases hin:(0:Int)<=i/\i<es.length
  ·obtain ⟨⟨k,v⟩,e1,q1⟩:=row_op he hin
   rw [fw_drop q1] at h4
   obtain ⟨F,hF⟩: ∃F:Int->Bool,∀x,F x=decide (fw w (l.drop (i.toNat+1)) x=1):=⟨_,fun _=>rfl⟩
   have h5:r=if takes (k,v) w<0\/h<takes (k,v) w then false else F (h+1-takes (k,v) w):=by
    rw [h4,hF];split <;>simp
   obtain ⟨tk,htk⟩: ∃tk,tk=takes (k,v) w:=⟨_,rfl⟩
   rw [<-htk] at h5
   have f1:tk<0->r=false:=fun a=>by rw [h5,if_pos (.inl a)]
   have f2:h<tk->r=false:=fun a=>by rw [h5,if_pos (.inr a)]
   have hK2: ∀hh:Int,0<=tk->tk<=h->hh=h+1-tk-> ∀s1,Weak (hpF []) s1 ⟨[(18,.int (i+1)),(17,.int z),(16,.e (.sl es)),(5,.int hh),(4,.bool false),(1,.int w)], []⟩->K s1:=fun hh a b c s1 d=>by
    refine hK s1 (n-1) _ (by omega) d ⟨i+1,hh,by omega,by omega,by omega,by omega,?_,rfl⟩
    have:(i+1).toNat=i.toNat+1:=by omega
    rw [h5,if_neg (by omega),hF,this,c]
   have t1:k=1->tk=0:=fun e=>by simp [htk,takes,e]
   have t2:k=2->tk=if v=0 then 0 else-1:=fun e=>by simp [htk,takes,e]
   have t3:k=3->tk=if 0<=v/\v<w then 0 else-1:=fun e=>by simp [htk,takes,e]
   have t4:k=4->tk=if 1<=v/\v<=6 then 2 else-1:=fun e=>by simp [htk,takes,e]
   have t5:k=5\/k=6->tk=if v=0 then 2 else-1:=fun e=>by rcases e with e | e <;>simp [htk,takes,e]
   have t6:k=7\/k=8->tk=if v=0 then 1 else-1:=fun e=>by rcases e with e | e <;>simp [htk,takes,e]
   have t7:k<1\/8<k->tk= -1:=fun e=>by simp only [htk,takes];repeat (rw [if_neg (by omega)])
   clear hK hF h4 hr2 hrc hc h5 htk
   cbv
   repeat' first | exact W1 | refine WA ?_ ?_ | with_reducible intro hcc | refine WS ?_ | (refine hA.RowE hin e1 ?_;cbv) | refine W6 ?_ | ((with_reducible first | refine hA.Len fun z hz hb=>?_ | refine hA.Off fun b hb=>?_ | refine hA.Plus fun b hb=>?_ | refine hA.gb _ _ fun vb hvb=>?_);cbv) | ((with_reducible first | refine hA.Sto ?_ fun ds hds=>?_ | refine hA.Sapp ?_ fun sl hsl=>?_);rotate_left;cbv) | refine WL ?_ | fail
   all_goals try simp only [hA.sm,n_cast] at *
   all_goals first
    | omega
    | (clear hK2;grind;done)
    | (clear hK2;simp at *;grind;done)
    | (refine hK2 _ ?_ ?_ ?_ _ (Weak.gc ⟨rfl,rfl,rfl,rfl,rfl,rfl,trivial⟩ rfl)
       all_goals clear hK2 hin e1 q1 hl1 hlen he h1
       all_goals first | grind | (simp at *;grind))
  ·have:l.drop i.toNat= []:=by rw [List.drop_eq_nil_iff];omega
   rw [this] at h4
   have h5:r=decide (h=1):=h4
   clear h4 hK
   cbv
   repeat' first | exact W1 | refine WA ?_ ?_ | with_reducible intro hcc | refine WS ?_ | ((with_reducible refine hA.row0 _ _ _ fun p row=>?_);cbv) | refine W6 ?_ | ((with_reducible first | refine hA.Len fun z hz hb=>?_ | refine hA.Off fun b hb=>?_ | refine hA.Plus fun b hb=>?_ | refine hA.gb _ _ fun vb hvb=>?_);cbv) | ((with_reducible first | refine hA.Sto ?_ fun ds hds=>?_ | refine hA.Sapp ?_ fun sl hsl=>?_);rotate_left;cbv) | refine WL ?_ | fail
   all_goals try simp only [hA.sm,n_cast] at *
   all_goals first
    | omega
    | (simp at *;grind;done))
end Go.Proofs.YtfplalbognalkaaGreat.Ab
/- Flat plans: which are valid, as the program and as the specification say it; that both say the same. -/
namespace Go.Proofs.YtfplalbognalkaaGreat.Ab
open Go
structure Fd where
 K:Int
 T:Int
 M:Int
 W:Int
 Ex:List (Int×Int)
 Exs:List (List (Int×Int))
 L:Int
 R:Int
 deriving DecidableEq,Inhabited
abbrev orr (r:List (Int×Int)):List E:= [E.sl (r.map orow)]
abbrev fdr (d:Fd):List E:= [E.int d.K,E.int d.T,E.int d.M,E.int d.W,E.sl (d.Ex.map orow),E.sl (d.Exs.map orr),E.int d.L,E.int d.R]
def two (k:Int):Bool:=decide (k=5\/k=6\/k=7\/k=9\/k=10\/k=11)
def one (k:Int):Bool:=two k || decide (k=3\/k=4\/k=8)
def lef (k:Int):Bool:=decide (3<=k/\k<=11)
def rig (k:Int):Bool:=decide (5<=k/\k<=7) || decide (9<=k/\k<=11)
end Go.Proofs.YtfplalbognalkaaGreat.Ab
/- Plans: which are valid, and their widths, as the specification and as the program say it. -/
namespace Go.Proofs.YtfplalbognalkaaGreat.Ab
open Go
structure Pd where
 K:Int
 T:Int
 M:Int
 Ex:List (Int×Int)
 Exs:List (List (Int×Int))
 L:Int
 R:Int
 deriving DecidableEq,Inhabited
abbrev pdr (d:Pd):List E:= [E.int d.K,E.int d.T,E.int d.M,E.sl (d.Ex.map orow),E.sl (d.Exs.map orr),E.int d.L,E.int d.R]
def hasL (k:Int):Bool:=decide (3<=k/\k<=10)
def hasR (k:Int):Bool:=decide (5<=k/\k<=8) || decide (k=10)
def depK (k:Int):Bool:=decide (k=6\/k=7\/k=8)
def kidsP (d:Pd):List Int:=(if hasR d.K then [d.R] else [])++(if hasL d.K then [d.L] else [])
def formP (d:Pd):Bool:=decide (1<=d.K/\d.K<=10)&&((hasR d.K || decide (d.R=0))&&(hasL d.K || decide (d.L=0)))
def frN (ns:List Pd):Nat->Int->Int
 | 0,_=> -1
 | n+1,i=>if formP (ns.getD i.toNat default)=true then chain (frN ns n) (kidsP (ns.getD i.toNat default)) i else-1
def l3F (ns:List Pd):Nat->Int->Int
 | 0,_=> -1
 | n+1,i=>
  let d:=ns.getD i.toNat default
  if i<0\/ ¬(1<=d.K/\d.K<=10) then-1
  else if d.K=1\/d.K=2 then (if d.L≠0\/d.R≠0 then-1 else i)
  else if hasR d.K=false then (if d.L≠i-1\/d.R≠0 then-1 else l3F ns n (i-1))
  else if d.R≠i-1 then-1
  else if l3F ns n (i-1)<1\/d.L≠l3F ns n (i-1)-1 then-1 else l3F ns n (l3F ns n (i-1)-1)
theorem l3F_neg (ns:List Pd) (n:Nat) {i:Int} (h:i<0):l3F ns n i= -1:=by
 cases n with
 | zero=>rfl
 | succ n=>simp only [l3F];rw [if_pos (.inl h)]
theorem l3F_lo (ns:List Pd): ∀(n:Nat) (i:Int),-1<=l3F ns n i
 | 0,i=>by simp [l3F]
 | n+1,i=>by
  have h1:=l3F_lo ns n (i-1)
  have h2:=l3F_lo ns n (l3F ns n (i-1)-1)
  simp only [l3F]
  repeat' split
  all_goals omega
theorem frN_eq (ns:List Pd): ∀(n:Nat) (i:Int),0<=i->frN ns n i=l3F ns n i
 | 0,i,_=>rfl
 | n+1,i,hi=>by
  have ih:=frN_eq ns n
  obtain ⟨d,hd⟩: ∃d,d=ns.getD i.toNat default:=⟨_,rfl⟩
  simp only [frN,l3F]
  rw [<-hd]
  have lo:=l3F_lo ns n
  have ng:=fun (j:Int) (h:j<0)=>l3F_neg ns n h
  obtain ⟨K,T,M,Ex,Exs,L,R⟩:=d
  by_cases hK:1<=K/\K<=10
  case neg=>rw [if_neg (by simp [formP,hK]),if_pos (.inr hK)]
  case pos=>
  rw [if_neg (show¬(i<0\/ ¬(1<=K/\K<=10)) by omega)]
  by_cases h0:i<1
  ·have e:l3F ns n (i-1)= -1:=ng _ (by omega)
   have c:K=1\/K=2\/(3<=K/\hasR K=false)\/(3<=K/\hasR K=true):=by
    cases hasR K <;>simp <;>omega
   rcases c with rfl | rfl | ⟨c,c2⟩ | ⟨c,c2⟩
   ·simp [formP,kidsP,hasL,hasR,chain];grind
   ·simp [formP,kidsP,hasL,hasR,chain];grind
   ·have hl:hasL K=true:=by simp [hasL];omega
    simp [formP,kidsP,c2,hl,chain,h0,hK,e,show¬K=1 by omega,show¬K=2 by omega]
   ·have hl:hasL K=true:=by simp [hasL];omega
    simp [formP,kidsP,c2,hl,chain,h0,hK,e,show¬K=1 by omega,show¬K=2 by omega]
  ·have e:=ih (i-1) (by omega)
   have lo1:=lo (i-1)
   have c:K=1\/K=2\/(3<=K/\hasR K=false)\/(3<=K/\hasR K=true):=by
    cases hasR K <;>simp <;>omega
   rcases c with rfl | rfl | ⟨c,c2⟩ | ⟨c,c2⟩
   ·simp [formP,kidsP,hasL,hasR,chain];grind
   ·simp [formP,kidsP,hasL,hasR,chain];grind
   ·have hl:hasL K=true:=by simp [hasL];omega
    simp [formP,kidsP,c2,hl,chain,h0,hK,e,show¬K=1 by omega,show¬K=2 by omega]
    obtain ⟨a,ha⟩: ∃a,a=l3F ns n (i-1):=⟨_,rfl⟩
    rw [<-ha] at lo1 ⊢
    clear ih lo ng e
    grind
   ·have hl:hasL K=true:=by simp [hasL];omega
    simp only [formP,kidsP,c2,hl,chain,if_true,List.singleton_append,hK,e]
    obtain ⟨a,ha⟩: ∃a,a=l3F ns n (i-1):=⟨_,rfl⟩
    rw [<-ha] at lo1 ⊢
    have e2:1<=a->frN ns n (a-1)=l3F ns n (a-1):=fun h=>ih _ (by omega)
    have lo2:=lo (a-1)
    by_cases ha1:1<=a
    ·rw [e2 ha1]
     obtain ⟨b,hb⟩: ∃b,b=l3F ns n (a-1):=⟨_,rfl⟩
     rw [<-hb] at lo2 ⊢
     clear ih lo ng e e2
     simp
     grind
    ·clear ih lo ng e e2
     simp
     grind
end Go.Proofs.YtfplalbognalkaaGreat.Ab
/- Plans: widths, as the specification and as the program say it. -/
namespace Go.Proofs.YtfplalbognalkaaGreat.Ab
open Go
def usedS (d:Pd) (nt:Int):Bool:=
 (decide (d.K=2) || decide (d.T=0))&&((!decide (d.K=2) || decide (0<=d.T/\d.T<nt))&&((decide (d.K=8) || decide (d.M=0))&&((!decide (d.K=8) || decide (1<=d.M/\d.M<=4))&&
 (((decide (d.K=3) || (decide (d.K=7) || (decide (d.K=8)&&decide (d.M≠1)))) || decide (d.Ex= []))&&(decide (d.K=4) || decide (d.Exs= []))))))
def usedI (d:Pd):Bool:=
 (decide (d.K=2) || decide (d.T=0))&&((decide (d.K=8) || decide (d.M=0))&&(((decide (d.K=3) || (decide (d.K=7) || (decide (d.K=8)&&decide (1<d.M)))) || decide (d.Ex= []))&&((decide (d.K=4) || decide (d.Exs= []))&&(!decide (d.K=8) || decide (1<=d.M/\d.M<=4)))))
def ndS (d:Pd) (cols:Int->Int) (env l r:Int):Int:=
 if d.K=3/\exOk d.Ex (env+l)=false then-1
 else if d.K=4/\(d.Exs.all fun e=>exOk e (env+l))=false then-1
 else if (d.K=7\/d.K=8)/\d.M≠1/\exOk d.Ex (env+l+r)=false then-1
 else if d.K=10/\l≠r then-1
 else
  let w:=if d.K=2 then cols d.T else if d.K=4 then (d.Exs.length:Int) else if d.K=5\/d.K=6 then l+r else if d.K=7\/d.K=8 then l+1 else l
  if env+w>200 then-1 else w
def wS (ns:List Pd) (nt:Int) (cols:Int->Int):Nat->Int->Int->Int
 | 0,_,_=> -1
 | n+1,i,env=>
  let d:=ns.getD i.toNat default
  if usedS d nt=false then-1 else
  let l:=if hasL d.K then wS ns nt cols n d.L env else 0
  if l<0 then-1 else
  let r:=if hasR d.K then wS ns nt cols n d.R (if depK d.K then env+l else env) else 0
  if r<0 then-1 else ndS d cols env l r
def ndI (d:Pd) (nt:Int) (cols:Int->Int) (env l r:Int):Option Int:=
 let w:Option Int:=
  if d.K=1 then some 0
  else if d.K=2 then (if d.T<0\/nt<=d.T then none else some (cols d.T))
  else if d.K=3 then (if exOk d.Ex (env+l)=true then some l else none)
  else if d.K=4 then (if (d.Exs.any fun e=>!exOk e (env+l))=false then some d.Exs.length else none)
  else if d.K=5\/d.K=6 then some (l+r)
  else if d.K=7 then (if exOk d.Ex (env+l+r)=true then some (l+1) else none)
  else if d.K=8 then (if d.M=1\/exOk d.Ex (env+l+r)=true then some (l+1) else none)
  else if d.K=9 then some l
  else if d.K=10 then (if l=r then some l else none)
  else none
 match w with
 | none=>none
 | some w=>if w+env>200 then none else some w
def wI (ns:List Pd) (nt:Int) (cols:Int->Int):Nat->Int->Int->Option Int
 | 0,_,_=>none
 | n+1,i,env=>
  let d:=ns.getD i.toNat default
  if usedI d=false then none else
  match (if hasL d.K then wI ns nt cols n d.L env else some 0) with
  | none=>none
  | some l=>match (if hasR d.K then wI ns nt cols n d.R (if depK d.K then env+l else env) else some 0) with
   | none=>none
   | some r=>ndI d nt cols env l r
end Go.Proofs.YtfplalbognalkaaGreat.Ab
/- Plans: both widths are the same. -/
namespace Go.Proofs.YtfplalbognalkaaGreat.Ab
open Go
theorem nd_eq {d:Pd} {nt:Int} {cols:Int->Int} {env l r:Int} (hK:1<=d.K/\d.K<=10) (hT:d.K=2->0<=d.T/\d.T<nt/\0<=cols d.T) (hl:0<=l) (hr:0<=r) (h0:d.K=1->l=0) (hM:d.K=7->d.M=0):
  ndI d nt cols env l r=if ndS d cols env l r<0 then none else some (ndS d cols env l r):=by
 obtain ⟨K,T,M,Ex,Exs,L,R⟩:=d
 unfold ndI ndS
 simp only at hK hT h0 hM ⊢
 have ha:(Exs.any fun e=>!exOk e (env+l))=!(Exs.all fun e=>exOk e (env+l)):=by rw [List.not_all_eq_any_not]
 rw [ha]
 obtain ⟨al,hal⟩: ∃b,b=Exs.all fun e=>exOk e (env+l):=⟨_,rfl⟩
 obtain ⟨e1,he1⟩: ∃b,b=exOk Ex (env+l):=⟨_,rfl⟩
 obtain ⟨e2,he2⟩: ∃b,b=exOk Ex (env+l+r):=⟨_,rfl⟩
 rw [<-hal,<-he1,<-he2]
 clear hal he1 he2 ha
 have c:K=1\/K=2\/K=3\/K=4\/K=5\/K=6\/K=7\/K=8\/K=9\/K=10:=by omega
 rcases c with rfl | rfl | rfl | rfl | rfl | rfl | rfl | rfl | rfl | rfl
 all_goals simp at hT h0 hM ⊢
 all_goals grind
theorem used_eq {d:Pd} {nt:Int} (h:d.K=2->0<=d.T/\d.T<nt):usedS d nt=usedI d:=by
 obtain ⟨K,T,M,Ex,Exs,L,R⟩:=d
 unfold usedS usedI
 simp only at h ⊢
 rw [Bool.eq_iff_iff]
 simp
 grind
end Go.Proofs.YtfplalbognalkaaGreat.Ab
/- Plans: both widths are the same, for all nodes. -/
namespace Go.Proofs.YtfplalbognalkaaGreat.Ab
open Go
def InP (ns:List Pd):Prop:= ∀j:Int,0<=j->j<ns.length->(1<=(ns.getD j.toNat default).K/\(ns.getD j.toNat default).K<=10)/\(hasL (ns.getD j.toNat default).K=true->0<=(ns.getD j.toNat default).L/\(ns.getD j.toNat default).L<j)/\(hasR (ns.getD j.toNat default).K=true->0<=(ns.getD j.toNat default).R/\(ns.getD j.toNat default).R<j)
theorem w_eq {ns:List Pd} {nt:Int} {cols:Int->Int} (hK:InP ns) (hc: ∀t,0<=t->t<nt->0<=cols t):
  ∀(n:Nat) (i env:Int),0<=i->i<ns.length->wI ns nt cols n i env=if wS ns nt cols n i env<0 then none else some (wS ns nt cols n i env)
 | 0,i,env,_,_=>by simp [wI,wS]
 | n+1,i,env,hi0,hi1=>by
  have ih:=w_eq hK hc n
  obtain ⟨hk,hkl,hkr⟩:=hK i hi0 hi1
  obtain ⟨d,hd⟩: ∃d,d=ns.getD i.toNat default:=⟨_,rfl⟩
  simp only [wI,wS]
  rw [<-hd] at hk hkl hkr ⊢
  by_cases hT:d.K=2->0<=d.T/\d.T<nt
  case neg=>
   have h2:d.K=2:=by
    by_cases h:d.K=2
    ·exact h
    ·exact absurd (fun q=>absurd q h) hT
   have h3: ¬(0<=d.T/\d.T<nt):=fun q=>hT fun _=>q
   have h4:usedS d nt=false:=by simp [usedS,h2];grind
   have h5:hasL d.K=false:=by simp [hasL,h2]
   have h6:hasR d.K=false:=by simp [hasR,h2]
   rw [h4,h5,h6]
   simp [ndI,h2]
   grind
  case pos=>
   rw [used_eq hT]
   cases hu:usedI d
   ·simp
   ·have hM:d.K=7->d.M=0:=fun h=>by simp [usedI,h] at hu;grind
    simp only [Bool.true_eq_false,if_false]
    obtain ⟨l,hl⟩: ∃l,l=if hasL d.K then wS ns nt cols n d.L env else 0:=⟨_,rfl⟩
    have e1:(if hasL d.K=true then wI ns nt cols n d.L env else some 0)=if l<0 then none else some l:=by
     rw [hl]
     cases hll:hasL d.K
     ·simp
     ·obtain ⟨a,b⟩:=hkl hll
      simp [ih d.L env a (by omega)]
    rw [e1,<-hl]
    by_cases hl0:l<0
    ·simp [hl0]
    ·rw [if_neg hl0]
     simp only
     obtain ⟨r,hr⟩: ∃r,r=if hasR d.K then wS ns nt cols n d.R (if depK d.K then env+l else env) else 0:=⟨_,rfl⟩
     have e2:(if hasR d.K=true then wI ns nt cols n d.R (if depK d.K then env+l else env) else some 0)=if r<0 then none else some r:=by
      rw [hr]
      cases hrr:hasR d.K
      ·simp
      ·obtain ⟨a,b⟩:=hkr hrr
       simp [ih d.R (if depK d.K then env+l else env) a (by omega)]
     rw [e2,<-hr]
     by_cases hr0:r<0
     ·simp [hr0,hl0]
     ·rw [if_neg hr0,if_neg hl0]
      simp only [hr0,if_false]
      exact nd_eq hk (fun h=>⟨(hT h).1,(hT h).2,hc _ (hT h).1 (hT h).2⟩) (by omega) (by omega) (fun h=>by rw [hl];simp [hasL,h]) hM
end Go.Proofs.YtfplalbognalkaaGreat.Ab
/- Names: valid, by the specification and by the program. -/
namespace Go.Proofs.YtfplalbognalkaaGreat.Ab
open Go
theorem ok211 (s:List UInt8):Plain Tryz.prog 211 [.str s] (.bool (isWord s)):=okOf mixed p211 fun A P hA hP=>(by
 obtain ⟨r,hr⟩: ∃r,r=isWord s:=⟨_,rfl⟩
 rw [<-hr]
 cbv
 repeat' first | exact W1 | refine WA ?_ ?_ | with_reducible intro hcc | refine WS ?_ | refine W6 ?_ | ((with_reducible first | refine hA.Slen fun z hz hb=>?_ | refine hA.Six fun z6 c hz6 hc hc2=>?_ | refine hA.gb _ _ fun vb hvb=>?_);cbv) | ((with_reducible first | refine hA.Sapp ?_ fun sl hsl=>?_);rotate_left;cbv) | refine WL ?_ | fail
 all_goals try simp only [hA.sm,n_cast] at *
 refine hA.loopI (fun n st=> ∃i:Int,0<=i/\n+i=s.length/\(∀j:Nat,j<i->okAt s j=true)/\st=⟨[(3,.int i),(2,.bool false),(0,.str s)], []⟩) s.length _
  (Weak.keep (env':= [(3,.int 0),(2,.bool false),(0,.str s)]) ⟨rfl,rfl,rfl,trivial⟩) ⟨0,by omega,by omega,fun j hj=>by omega,rfl⟩ ?_
 rintro n st K ⟨i,h0,h1,h2,rfl⟩ hK
 by_cases hin:i<s.length
 ·obtain ⟨cN,hcN⟩: ∃cN,cN=(s.getD i.toNat 0).toNat:=⟨_,rfl⟩
  have hch:chAt s i.toNat=(cN:Int):=by rw [chAt,hcN]
  have e102:=ok232 (cN:Int)
  have e103:=ok233 (cN:Int)
  obtain ⟨bl,hbl⟩: ∃b,b=isLet (cN:Int):=⟨_,rfl⟩
  obtain ⟨bd,hbd⟩: ∃b,b=isDig (cN:Int):=⟨_,rfl⟩
  rw [<-hbl] at e102
  rw [<-hbd] at e103
  obtain ⟨o,ho⟩: ∃o,o=okAt s i.toNat:=⟨_,rfl⟩
  have ho2:o=(bl || (decide (i≠0)&&(bd || decide ((cN:Int)=95)))):=by
   rw [ho,okAt,hch,<-hbl,<-hbd]
   have:decide (i.toNat≠0)=decide (i≠0):=by rw [decide_eq_decide];omega
   rw [this]
  have f1:o=false->r=false:=fun e=>by
   rw [hr,isWord,decide_eq_false_iff_not]
   intro ⟨_,q⟩
   have:=q i.toNat (by omega)
   rw [<-ho,e] at this
   cases this
  have f2:o=true-> ∀s1,Weak (hpF []) s1 ⟨[(3,.int (i+1)),(2,.bool false),(0,.str s)], []⟩->K s1:=fun e s1 hw=>by
   refine hK s1 (n-1) _ (by omega) hw ⟨i+1,by omega,by omega,fun j hj=>?_,rfl⟩
   by_cases hji:(j:Int)<i
   ·exact h2 j hji
   ·have:j=i.toNat:=by omega
    rw [this,<-ho];exact e
  clear hK h2 hr ho hbl hbd hch
  cbv
  repeat' first | exact W1 | refine WA ?_ ?_ | with_reducible intro hcc | refine WS ?_ | refine WK hA hP ?_ | ((with_reducible refine hA.six _ _ _ fun z6 c hz6 hc hc2=>?_);(have e6:cN=c:=(by rw [hc,hcN]));subst e6;cbv) | refine W6 ?_ | ((with_reducible first | refine hA.Slen fun z hz hb=>?_ | refine hA.Six fun z6 c hz6 hc hc2=>?_ | refine hA.gb _ _ fun vb hvb=>?_);cbv) | ((with_reducible first | refine hA.Sapp ?_ fun sl hsl=>?_);rotate_left;cbv) | refine WL ?_ | fail
  all_goals try simp only [hA.sm,n_cast] at *
  all_goals first
   | omega
   | (refine f2 ?_ _ (Weak.keep ⟨rfl,rfl,rfl,trivial⟩);clear f2 f1 hcN hc;grind;done)
   | (rw [f1 (by clear f2 f1 hcN hc;grind)];done)
   | (clear f2 f1 hcN hc;grind;done)
   | (clear f2 f1 hcN;simp at *;omega)
 ·have hr2:r=decide (0<s.length):=by
   rw [hr,isWord,decide_eq_decide]
   exact ⟨fun q=>q.1,fun q=>⟨q,fun j hj=>h2 j (by omega)⟩⟩
  clear hr hK h2
  cbv
  repeat' first | exact W1 | refine WA ?_ ?_ | with_reducible intro hcc | refine WS ?_ | (exfalso;simp only [hA.lt,hA.sub,decide_eq_true_eq,decide_eq_false_iff_not,n_cast] at *;omega) | refine W6 ?_ | ((with_reducible first | refine hA.Slen fun z hz hb=>?_ | refine hA.Six fun z6 c hz6 hc hc2=>?_ | refine hA.gb _ _ fun vb hvb=>?_);cbv) | ((with_reducible first | refine hA.Sapp ?_ fun sl hsl=>?_);rotate_left;cbv) | refine WL ?_ | fail
  all_goals try simp only [hA.sm,n_cast] at *
  all_goals first
   | (rw [hr2];congr 3;rw [decide_eq_decide];omega)
   | omega)
theorem ok153 (s:List UInt8):Plain Tryz.prog 153 [.str s] (.bool (nameB s)):=okOf mixed p153 fun A P hA hP=>(by
 obtain ⟨w,hw⟩: ∃w,w=isWord s:=⟨_,rfl⟩
 obtain ⟨k,hk⟩: ∃k,k=keyB s:=⟨_,rfl⟩
 have h87:=ok211 s
 have h88:=ok212 s
 have hn:nameB s=(w&&(decide (s.length<=64)&&!k)):=by rw [hw,hk];rfl
 rw [hn]
 rw [<-hw] at h87
 rw [<-hk] at h88
 obtain ⟨n,hn⟩: ∃n,n=s.length:=⟨_,rfl⟩
 rw [<-hn]
 clear hw hk
 cbv
 repeat' first | exact W1 | refine WA ?_ ?_ | with_reducible intro hcc | refine WS ?_ | refine WK hA hP ?_ | refine W6 ?_ | ((with_reducible first | refine hA.Slen fun z hz hb=>?_ | refine hA.gb _ _ fun vb hvb=>?_);cbv) | refine WL ?_ | fail
 all_goals try simp only [hA.sm,n_cast] at *
 all_goals first
  | omega
  | (clear h87 h88;grind;done)
  | (clear h87 h88;simp at *;grind;done))
end Go.Proofs.YtfplalbognalkaaGreat.Ab
/- Names: valid, by the program. -/
namespace Go.Proofs.YtfplalbognalkaaGreat.Ab
open Go
theorem nameB_false (s:List UInt8):(s.length<1->nameB s=false)/\(64<s.length->nameB s=false)/\(1<=s.length->isLet (chAt s 0)=false->nameB s=false)/\(keyB s=true->nameB s=false)/\
  (∀j,j<s.length->isLet (chAt s j)=false->isDig (chAt s j)=false->chAt s j≠95->nameB s=false)/\
  (1<=s.length->s.length<=64->isLet (chAt s 0)=true->keyB s=false->(∀j,j<s.length->(isLet (chAt s j) || (isDig (chAt s j) || decide (chAt s j=95)))=true)->nameB s=true):=by
 have hw: ∀j,j<s.length->okAt s j=false->isWord s=false:=fun j hj e=>by
  rw [isWord,decide_eq_false_iff_not]
  intro ⟨_,q⟩
  rw [q j hj] at e;cases e
 refine ⟨fun h=>?_,fun h=>?_,fun h e=>?_,fun h=>?_,fun j hj e1 e2 e3=>?_,fun h1 h2 e1 e2 q=>?_⟩
 ·have:isWord s=false:=by rw [isWord,decide_eq_false_iff_not];intro ⟨q,_⟩;omega
  simp [nameB,this]
 ·simp [nameB,show¬s.length<=64 by omega]
 ·simp [nameB,hw 0 (by omega) (by simp [okAt,e])]
 ·simp [nameB,h]
 ·simp [nameB,hw j hj (by simp [okAt,e1,e2,e3])]
 ·have:isWord s=true:=by
   rw [isWord,decide_eq_true_eq]
   refine ⟨by omega,fun j hj=>?_⟩
   have:=q j hj
   by_cases h0:j=0
   ·subst h0;simp [okAt,e1]
   ·simpa [okAt,h0] using this
  simp [nameB,this,h2,e2]
theorem ok132 (s:List UInt8):Plain Tryz.prog 132 [.str s] (.bool (nameB s)):=okOf mixed p132 fun A P hA hP=>(by
 obtain ⟨g1,g2,g3,g4,g5,g6⟩:=nameB_false s
 obtain ⟨r,hr⟩: ∃r,r=nameB s:=⟨_,rfl⟩
 rw [<-hr] at g1 g2 g3 g4 g5 g6 ⊢
 obtain ⟨c0,hc0⟩: ∃c,c=(s.getD 0 0).toNat:=⟨_,rfl⟩
 have hch0:chAt s 0=(c0:Int):=by rw [chAt,hc0]
 rw [hch0] at g3 g6
 obtain ⟨b0,hb0⟩: ∃b,b=isLet (c0:Int):=⟨_,rfl⟩
 have e90:=ok195 (c0:Int)
 rw [<-hb0] at g3 g6 e90
 have e91:=ok196 s
 obtain ⟨kb,hkb⟩: ∃b,b=keyB s:=⟨_,rfl⟩
 rw [<-hkb] at g4 g6 e91
 clear hr hb0 hkb hch0
 cbv
 repeat' first | exact W1 | refine WA ?_ ?_ | with_reducible intro hcc | refine WS ?_ | refine WK hA hP ?_ | ((with_reducible refine hA.six _ _ _ fun z6 c hz6 hc hc2=>?_);(have e6:c0=c:=(by rw [hc,hc0];rfl));subst e6;cbv) | refine W6 ?_ | ((with_reducible first | refine hA.Slen fun z hz hb=>?_ | refine hA.Six fun z6 c hz6 hc hc2=>?_ | refine hA.gb _ _ fun vb hvb=>?_);cbv) | ((with_reducible first | refine hA.Sapp ?_ fun sl hsl=>?_);rotate_left;cbv) | refine WL ?_ | fail
 all_goals try simp only [hA.sm,n_cast] at *
 all_goals try (first
  | omega
  | (clear g1 g2 g3 g4 g5 g6 hc0;simp at *;omega)
  | (clear g1 g2 g3 g4 g5 g6;simp at *;grind;done))
 ·have hfalse:r=false:=by
   have q1:(s.length:Int)<1\/64<(s.length:Int)\/(1<=(s.length:Int)/\b0=false)\/kb=true:=by
    clear g1 g2 g3 g4 g5 g6
    simp at *
    grind
   rcases q1 with q | q | ⟨q,q'⟩ | q
   ·exact g1 (by omega)
   ·exact g2 (by omega)
   ·exact g3 (by omega) q'
   ·exact g4 q
  rw [hfalse]
 ·have q1:1<=(s.length:Int)/\(s.length:Int)<=64/\b0=true/\kb=false:=by
   clear g1 g2 g3 g4 g5 g6
   simp at *
   grind
  obtain ⟨q1,q2,q3,q4⟩:=q1
  refine hA.loopI (fun n st=> ∃i zz:Int,0<=i/\zz=s.length/\n+i=zz/\(∀j:Nat,j<i->(isLet (chAt s j) || (isDig (chAt s j) || decide (chAt s j=95)))=true)/\st=⟨[(24,.int i),(23,.int zz),(2,.bool false),(0,.str s)], []⟩) s.length _
   (Weak.keep (env':= [(24,.int 0),(23,.int z),(2,.bool false),(0,.str s)]) ⟨rfl,rfl,rfl,rfl,trivial⟩) ⟨0,z,by omega,by omega,by omega,fun j hj=>by omega,rfl⟩ ?_
  rintro n st K ⟨i,zz,h0,hz,h1,h2,rfl⟩ hK
  by_cases hin:i<zz
  ·obtain ⟨cN,hcN⟩: ∃cN,cN=(s.getD i.toNat 0).toNat:=⟨_,rfl⟩
   have hch:chAt s i.toNat=(cN:Int):=by rw [chAt,hcN]
   have f90:=ok195 (cN:Int)
   have f92:=ok197 (cN:Int)
   have k5:=g5 i.toNat (by omega)
   rw [hch] at k5
   have k6:(isLet (cN:Int) || (isDig (cN:Int) || decide ((cN:Int)=95)))=true-> ∀s1,Weak (hpF []) s1 ⟨[(24,.int (i+1)),(23,.int zz),(2,.bool false),(0,.str s)], []⟩->K s1:=fun e s1 hw=>by
    refine hK s1 (n-1) _ (by omega) hw ⟨i+1,zz,by omega,hz,by omega,fun j hj=>?_,rfl⟩
    by_cases hji:(j:Int)<i
    ·exact h2 j hji
    ·have:j=i.toNat:=by omega
     rw [this,hch];exact e
   obtain ⟨bl,hbl⟩: ∃b,b=isLet (cN:Int):=⟨_,rfl⟩
   obtain ⟨bd,hbd⟩: ∃b,b=isDig (cN:Int):=⟨_,rfl⟩
   rw [<-hbl] at f90 k5 k6
   rw [<-hbd] at f92 k5 k6
   clear hK h2 hbl hbd hch g1 g2 g3 g4 g5 g6 e90 e91 hvb q3 q4
   cbv
   repeat' first | exact W1 | refine WA ?_ ?_ | with_reducible intro hcc | refine WS ?_ | refine WK hA hP ?_ | ((with_reducible refine hA.six _ _ _ fun z6 c hz6 hc hc2=>?_);(have e6:cN=c:=(by rw [hc,hcN]));subst e6;cbv) | refine W6 ?_ | ((with_reducible first | refine hA.Slen fun z hz hb=>?_ | refine hA.Six fun z6 c hz6 hc hc2=>?_ | refine hA.gb _ _ fun vb hvb=>?_);cbv) | ((with_reducible first | refine hA.Sapp ?_ fun sl hsl=>?_);rotate_left;cbv) | refine WL ?_ | fail
   all_goals try simp only [hA.sm,n_cast] at *
   all_goals first
    | omega
    | (refine k6 ?_ _ (Weak.keep ⟨rfl,rfl,rfl,rfl,trivial⟩);clear k6 k5 hcN hc;simp at *;grind;done)
    | (rw [k5 (by clear k6 k5 hcN;grind) (by clear k6 k5 hcN;grind) (by clear k6 k5 hcN;grind)];done)
    | (clear k6 k5 hcN;simp at *;omega)
    | (clear k6 k5 hcN;grind;done)
  ·have hr2:r=true:=g6 (by omega) (by omega) q3 q4 fun j hj=>h2 j (by omega)
   clear hK h2 g1 g2 g3 g4 g5 g6
   cbv
   repeat' first | exact W1 | refine WA ?_ ?_ | with_reducible intro hcc | refine WS ?_ | (exfalso;simp only [hA.lt,hA.sub,decide_eq_true_eq,decide_eq_false_iff_not,n_cast] at *;omega) | refine W6 ?_ | ((with_reducible first | refine hA.Slen fun z hz hb=>?_ | refine hA.Six fun z6 c hz6 hc hc2=>?_ | refine hA.gb _ _ fun vb hvb=>?_);cbv) | ((with_reducible first | refine hA.Sapp ?_ fun sl hsl=>?_);rotate_left;cbv) | refine WL ?_ | fail
   all_goals try simp only [hA.sm,n_cast] at *
   all_goals first
    | (rw [hr2];done)
    | omega)
end Go.Proofs.YtfplalbognalkaaGreat.Ab
/- What plans share. -/
namespace Go.Proofs.YtfplalbognalkaaGreat.Ab
open Go
theorem gg1: ∀b:Bool,(match (match b with | true=>false | false=>true) with | true=>decide (b=false)=true | false=>True):=fun b=>by cases b <;>simp
theorem gg2: ∀b:Bool,(match b with | true=>decide (b=true)=true | false=>True):=fun b=>by cases b <;>simp
theorem gg3: ∀b:Bool,(match decide (b=true) with | true=>True | false=>True):=fun b=>by cases b <;>simp
theorem gg4: ∀b:Bool,(match decide (b=false) with | true=>True | false=>True):=fun b=>by cases b <;>simp
theorem gg5: ∀b:Bool,(match b with | true=>True | false=>True):=fun b=>by cases b <;>simp
def colsOf (ts:List Tb) (t:Int):Int:=(ts.getD t.toNat ([],0, [])).2.1
theorem ors_at {l:List (List (Int×Int))} {es:List (List E)} (he:es=l.map orr) {n:Int} (h:0<=n/\n<es.length): ∃p,es.getD n.toNat []=orr p/\l[n.toNat]?=some p:=row_at he h
theorem gg6: ∀a b:Bool,(match (match decide (a=true) with | false=>false | true=>match b with | true=>false | false=>true) with | true=>(match decide (a=true) with | false=>false | true=>decide (b=false))=true | false=>True):=fun a b=>by cases a <;>cases b <;>simp
theorem all_drop {α:Type} {p:α->Bool} {l:List α} (h: ∀(i:Nat) (a:α),l[i]?=some a->p a=true):l.all p=true:=by
 rw [List.all_eq_true]
 intro a ha
 obtain ⟨i,hi⟩:=List.getElem?_of_mem ha
 exact h i a hi
def fstG {α:Type} (q:α->Bool):List α->Int->Int
 | [],_=> -1
 | k::r,i=>if q k then i else fstG q r (i+1)
theorem fstG_any {α:Type} (q:α->Bool): ∀(l:List α) (i:Int),0<=i->decide (0<=fstG q l i)=l.any q
 | [],i,_=>rfl
 | k::r,i,h=>by
  simp only [fstG,List.any_cons]
  by_cases hq:q k=true
  ·simp [hq,h]
  ·simp only [hq,Bool.false_eq_true,if_false,Bool.false_or]
   exact fstG_any q r (i+1) (by omega)
end Go.Proofs.YtfplalbognalkaaGreat.Ab
