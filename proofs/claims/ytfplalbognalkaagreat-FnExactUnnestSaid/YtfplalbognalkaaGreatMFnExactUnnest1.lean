/- Each step of the small language is what the machine does: composite values, and steps that make or write memory. -/
import Derived.Test.YtfplalbognalkaaGreatMFnExactUnnest0
import Derived.Laws.Append
import Derived.MapKept
import Derived.LoopN
set_option linter.unusedSimpArgs false
set_option linter.unusedVariables false
set_option linter.unnecessarySimpa false
set_option linter.constructorNameAsVariable false
set_option maxRecDepth 100000
set_option maxHeartbeats 16000000
namespace Go.Proofs.YtfplalbognalkaaGreat.Ab
open Go
section
variable {P:Program} {o:Oper} {ev:X->Option D} {hpR:Hp} {f:Nat} {dr gd g:Bool} {K:Prop->Eff->Prop}
variable {dst:Option Nat} {ty:TypeId} {pos:String} {after:Array Edge} {gu:Option (Nat×Bool)}
structure RvA (w:World) (G:Gh) (h:Hp) (cs:Array Value) (ds:List D):Prop where
 size:cs.size=ds.length
 one: ∀(j:Nat) c,cs[j]?=some c->c.oneCell'=true
 rel: ∀(j:Nat) c d,cs[j]?=some c->ds[j]?=some d->Rv w G h c d
theorem Rv.leaf_cell {w G h} {v:Value} {d:D} (r:Rv w G h v d) (hl:d.leaf=true):v.oneCell'=true:=by
 cases r with
 | e h=>exact h.cell
 | own hx _ _=>exact hx.cell
 | agg=>cases hl
 | tup=>cases hl
 | when=>cases hl
 | any=>cases hl
 | rv _ hc=>exact hc
 | _=>rfl
theorem Rv.cells {w G h} {v:Value} {d:D} (r:Rv w G h v d) (hl:d.stor=true):RvA w G h v.cells d.cells:=by
 have key: ∀ {v d},Rv w G h v d->v.oneCell'=true->d.cells= [d]->RvA w G h v.cells d.cells:=fun {v d} r h1 h2=>by
  have:v.cells= #[v]:=by cases v <;>first | rfl | cases h1
  rw [this,h2]
  refine ⟨rfl,fun j c hc=>?_,fun j c d' hc hd=>?_⟩
  ·cases j with
   | zero=>simp at hc;subst hc;exact h1
   | succ j=>simp at hc
  ·cases j with
   | zero=>simp at hc hd;subst hc;subst hd;exact r
   | succ j=>simp at hc
 cases d with
 | agg ds=>
  obtain ⟨cs,rfl,hl,h1,h2⟩:=rv_agg r
  exact ⟨hl,h1,h2⟩
 | tup ds=>cases hl
 | when g d=>cases hl
 | any=>cases hl
 | _=>exact key r (r.leaf_cell rfl) rfl
theorem fold_set {n:Nat} (vs:Array Value) (off:Nat): ∀(l:List (Value×Nat)) (cells:Array Value),(∀x∈l,vs[x.2]?=some x.1)-> ∀m,
  (l.foldl (fun cs (x:Value×Nat)=>cs.setIfInBounds (off+x.2) x.1) cells)[m]?=if (∃x∈l,off+x.2=m)/\m<cells.size then vs[m-off]? else cells[m]?:=by
 intro l
 induction l with
 | nil=>intro cells _ m;simp
 | cons x l ih=>
  intro cells hx m
  rw [List.foldl_cons,ih _ (fun y hy=>hx y (by simp [hy])) m]
  have h0:=hx x (by simp)
  by_cases h1: ∃y∈l,off+y.2=m
  ·obtain ⟨y,hy,e⟩:=h1
   by_cases hm:m<cells.size
   ·rw [if_pos ⟨⟨y,hy,e⟩,by simpa using hm⟩,if_pos ⟨⟨y,by simp [hy],e⟩,hm⟩]
   ·rw [if_neg (fun h=>hm (by simpa using h.2)),if_neg (fun h=>hm h.2)]
    simp [Array.getElem?_eq_none (Nat.le_of_not_lt hm)];omega
  ·rw [if_neg (fun h=>h1 h.1)]
   by_cases h2:off+x.2=m
   ·by_cases hm:m<cells.size
    ·rw [if_pos ⟨⟨x,by simp,h2⟩,hm⟩]
     subst h2
     simp [hm,h0]
    ·rw [if_neg (fun h=>hm h.2)]
     simp [Array.getElem?_eq_none (Nat.le_of_not_lt hm)];omega
   ·rw [if_neg (fun h=>by
     obtain ⟨⟨y,hy,e⟩,_⟩:=h
     rcases List.mem_cons.1 hy with rfl | hy
     ·exact h2 e
     ·exact h1 ⟨y,hy,e⟩)]
    rw [Array.getElem?_setIfInBounds_ne h2]
theorem fold_zip (vs cells:Array Value) (off:Nat) (hb:off+vs.size<=cells.size) (m:Nat):
  (vs.zipIdx.foldl (fun cs (x:Value×Nat)=>cs.setIfInBounds (off+x.2) x.1) cells)[m]?=if off<=m/\m<off+vs.size then vs[m-off]? else cells[m]?:=by
 rw [<-Array.foldl_toList,fold_set (n:=0) vs off]
 ·by_cases h:off<=m/\m<off+vs.size
  ·rw [if_pos h,if_pos ⟨⟨(vs[m-off]'(by omega),m-off),by simp [List.mem_zipIdx_iff_getElem?,show m-off<vs.size by omega],by simp;omega⟩,by omega⟩]
  ·rw [if_neg h,if_neg]
   rintro ⟨⟨x,hx,e⟩,_⟩
   simp [List.mem_zipIdx_iff_getElem?] at hx
   have:=(Array.getElem?_eq_some_iff.1 hx).1
   omega
 ·intro x hx
  simpa [List.mem_zipIdx_iff_getElem?] using hx
theorem fold_zip_size (vs cells:Array Value) (off:Nat):(vs.zipIdx.foldl (fun cs (x:Value×Nat)=>cs.setIfInBounds (off+x.2) x.1) cells).size=cells.size:=by
 rw [<-Array.foldl_toList]
 generalize vs.zipIdx.toList=l
 induction l generalizing cells with
 | nil=>rfl
 | cons x l ih=>rw [List.foldl_cons,ih];simp
theorem splice_get' {α:Type} (l r:List α) (off m:Nat) (hb:off<=l.length):(l.take off++r++l.drop (off+r.length))[m]?=if off<=m/\m<off+r.length then r[m-off]? else l[m]?:=by
 have h1:(l.take off).length=off:=by simp;omega
 by_cases a:m<off
 ·rw [if_neg (by omega),List.append_assoc,List.getElem?_append_left (by omega),List.getElem?_take,if_pos a]
 ·by_cases b:m<off+r.length
  ·rw [if_pos ⟨by omega,b⟩,List.append_assoc,List.getElem?_append_right (by omega),h1,List.getElem?_append_left (by omega)]
  ·rw [if_neg (by omega),List.append_assoc,List.getElem?_append_right (by omega),h1,List.getElem?_append_right (by omega),List.getElem?_drop]
   congr 1
   omega
theorem splice_get {α:Type} (l r:List α) (off m:Nat) (hb:off+r.length<=l.length):(l.take off++r++l.drop (off+r.length))[m]?=if off<=m/\m<off+r.length then r[m-off]? else l[m]?:=by
 have h1:(l.take off).length=off:=by simp;omega
 by_cases a:m<off
 ·rw [if_neg (by omega),List.append_assoc,List.getElem?_append_left (by omega),List.getElem?_take,if_pos a]
 ·by_cases b:m<off+r.length
  ·rw [if_pos ⟨by omega,b⟩,List.append_assoc,List.getElem?_append_right (by omega),h1,List.getElem?_append_left (by omega)]
  ·rw [if_neg (by omega),List.append_assoc,List.getElem?_append_right (by omega),h1,List.getElem?_append_right (by omega),List.getElem?_drop]
   congr 1
   omega
theorem RvA.put {w G h} {cs vs:Array Value} {ds es:List D} (hc:RvA w G h cs ds) (hv:RvA w G h vs es) {off:Nat} (hb:off+vs.size<=cs.size):
  RvA w G h (vs.zipIdx.foldl (fun cs (x:Value×Nat)=>cs.setIfInBounds (off+x.2) x.1) cs) (ds.take off++es++ds.drop (off+es.length)):=by
 have e1:=hv.size
 have e2:=hc.size
 refine ⟨by rw [fold_zip_size];simp;omega,fun j c hj=>?_,fun j c d hj hd=>?_⟩
 ·rw [fold_zip _ _ _ hb] at hj
  split at hj
  ·exact hv.one _ _ hj
  ·exact hc.one _ _ hj
 ·rw [fold_zip _ _ _ hb] at hj
  rw [splice_get _ _ _ _ (by omega)] at hd
  rw [e1] at hj
  split at hj
  ·rw [if_pos (by assumption)] at hd;exact hv.rel _ _ _ hj hd
  ·rw [if_neg (by assumption)] at hd;exact hc.rel _ _ _ hj hd
theorem fill_rel {w G h} (place:Nat->Option (Nat×Nat)): ∀(ps:List (Nat×Value)) (qs:List (Nat×Nat×List D)) (cs:Array Value) (ds:List D),
  RvA w G h cs ds->ps.length=qs.length->(∀(j:Nat) p q,ps[j]?=some p->qs[j]?=some q->place p.1=some (q.1,q.2.1)/\RvA w G h p.2.cells q.2.2/\q.2.2.length=q.2.1/\q.1+q.2.1<=ds.length)->
  ∃cs',Instr.fill place cs ps=some cs'/\RvA w G h cs' (fillD ds qs):=by
 intro ps
 induction ps with
 | nil=>intro qs cs ds hc hl _;cases qs with | nil=>exact ⟨cs,rfl,hc⟩ | cons q qs=>cases hl
 | cons p ps ih=>
  intro qs cs ds hc hl hp
  cases qs with
  | nil=>cases hl
  | cons q qs=>
   obtain ⟨i,v⟩:=p
   obtain ⟨off,n,es⟩:=q
   obtain ⟨h1,h2,h3,h4⟩:=hp 0 (i,v) (off,n,es) rfl rfl
   have h1:place i=some (off,n):=h1
   have h2:RvA w G h v.cells es:=h2
   have h3:es.length=n:=h3
   have h4:off+n<=ds.length:=h4
   have e1:=h2.size
   have e2:=hc.size
   have hput:=hc.put h2 (off:=off) (by omega)
   obtain ⟨cs',e,r⟩:=ih qs _ _ hput (by simpa using hl) (fun j p q a b=>by
    obtain ⟨x1,x2,x3,x4⟩:=hp (j+1) p q (by simpa using a) (by simpa using b)
    exact ⟨x1,x2,x3,by
     have x5:q.1+q.2.1<=ds.length:=x4
     show q.1+q.2.1<=(ds.take off++es++ds.drop (off+es.length)).length
     simp only [List.length_append,List.length_take,List.length_drop]
     omega⟩)
   refine ⟨cs',?_,r⟩
   simp only [Instr.fill,h1]
   have e3:v.cells.size=n:=by rw [h2.size,h3]
   rw [if_neg (by simp;omega)]
   exact e
theorem RvA.ext {w G h w' G' h'} (x:Ext w G h w' G' h') {cs:Array Value} {ds:List D} (r:RvA w G h cs ds):RvA w' G' h' cs ds:=
 ⟨r.size,r.one,fun j c d a b=>(r.rel j c d a b).ext x⟩
structure RvP (w:World) (G:Gh) (h:Hp) (cs:Array Value) (ds:List D):Prop where
 size:ds.length<=cs.size
 rel: ∀(j:Nat) c d,cs[j]?=some c->ds[j]?=some d->Rv w G h c d/\c.oneCell'=true
theorem RvP.ext {w G h w' G' h'} (x:Ext w G h w' G' h') {cs:Array Value} {ds:List D} (r:RvP w G h cs ds):RvP w' G' h' cs ds:=
 ⟨r.size,fun j c d a b=>⟨(r.rel j c d a b).1.ext x,(r.rel j c d a b).2⟩⟩
def Gh.new (G:Gh) (b:Nat) (pn:Nat->Prop) (f:Nat):Gh:=⟨fun x o=>G.pub x o\/(x=b/\pn o),fun i=>if i=f then b else G.blk i,G.sg,G.rv,G.rb⟩
theorem alloc_step {w:World} {G:Gh} {h h':Hp} {f:Nat} {cs:Array Value} {T:TypeId} {pn:Nat->Prop} (hi:Inv w G h) (hd:h f= .dead\/ ∃n k n',h f= .front n k/\h' f= .front n' k/\n<=n'/\(n'=n->n=0)) (hh: ∀i,i≠f->h' i=h i)
  (hbox: ∀ds,h' f= .box ds->(∀o,¬pn o)/\RvA w G h cs ds) (hfr: ∀n k,h' f= .front n k->0<n-> ∀o,n * k<=o-> ¬pn o)
  (hvec: ∀b k ds,h' f= .vec b k ds->b=true/\(∀o,¬pn o)/\RvP w G h cs ds:=by intro b k ds e;simp at e) (hsm: ∀l,h' f≠ .smap l:=by intro l e;simp at e) (hpl:(h' f).plain=true:=by simp [O.plain]):
  Inv (w.alloc (.cells cs T)) (G.new w.heap.size pn f) h'/\Ext w G h (w.alloc (.cells cs T)) (G.new w.heap.size pn f) h':=by
 have hb: ∀i,i≠f->(G.new w.heap.size pn f).blk i=G.blk i:=fun i e=>by simp [Gh.new,e]
 have hbf:(G.new w.heap.size pn f).blk f=w.heap.size:=by simp [Gh.new]
 have hnb: ∀ds,h f≠ .box ds:=fun ds e=>by
  rcases hd with hd | ⟨n,k,n',hd,_⟩
  ·rw [hd] at e;cases e
  ·rw [hd] at e;cases e
 have hnv: ∀b k ds,h f≠ .vec b k ds:=fun b k ds e=>by
  rcases hd with hd | ⟨n,k,n',hd,_⟩
  ·rw [hd] at e;cases e
  ·rw [hd] at e;cases e
 have hns: ∀l,h f≠ .smap l:=fun l e=>by
  rcases hd with hd | ⟨n,k,n',hd,_⟩
  ·rw [hd] at e;cases e
  ·rw [hd] at e;cases e
 have hng:h f≠ .gone:=fun e=>by
  rcases hd with hd | ⟨n,k,n',hd,_⟩
  ·rw [hd] at e;cases e
  ·rw [hd] at e;cases e
 have hold: ∀b,b<w.heap.size->(w.alloc (.cells cs T)).heap[b]?=w.heap[b]?:=fun b e=>RowKit.Below.heap_alloc _ _ _ e
 have hx:=hx_one hh (by rcases hd with hd | ⟨n,k,n',hd,_⟩ <;>rw [hd] <;>rfl) hpl
 have ext:Ext w G h (w.alloc (.cells cs T)) (G.new w.heap.size pn f) h':= {
  os:=rfl
  sgm:=fun _ _ e=>e
  idm:=fun j m e=>⟨m,hx.1 j m e⟩
  rvm:=fun j R e=>⟨⟨R,hx.2.1 j R e⟩,rfl⟩
  rbnew:=fun j R e b hb=> .inl ⟨j,R,hx.2.2.2 j R e,hb⟩
  idn:=fun j m e=>⟨j,m,hx.2.2.1 j m e⟩
  sgn:=fun _=>rfl
  sgw:=fun _ _ e=> .inl e
  tape:=rfl
  output:=rfl
  size:=by simp
  pub:=fun b o p=>⟨.inl p,World.cell?_alloc_lt _ _ _ (hi.publt b o p)⟩
  box:=fun i ds e=>by
   have:i≠f:=fun e'=>hnb ds (e'▸e)
   exact ⟨⟨ds,by rw [hh i this,e],rfl⟩,hb i this⟩
  tok:=fun i n k e=>by
   by_cases this:i=f
   ·subst this
    rcases hd with hd | ⟨n1,k1,n',hd,hd',hle,hne⟩
    ·rw [hd] at e;cases e
    ·rw [hd] at e;cases e
     exact ⟨n',hd',hle,fun q q0=>by have:=hne q;omega⟩
   refine ⟨n,by rw [hh i this,e],Nat.le_refl _,fun _ hn=>⟨hb i this,?_⟩⟩
   simp only [World.shape?]
   rw [hold _ (hi.lt i (by rw [e];simp [O.has,hn]))]
  others:=fun b hb' _ _=>hold b hb'
  new:=fun i hi'=>by
   by_cases e:i=f
   ·subst e;exact .inr (by rw [hbf];exact Nat.le_refl _)
   ·rw [hh i e] at hi';exact .inl ⟨i,hi',hb i e⟩
  pubnew:=fun b o p=>by
   rcases p with p | ⟨rfl,_⟩
   ·exact .inl p
   ·exact .inr (.inl (Nat.le_refl _))
  vec:=fun i b k ds e=>by
   have:i≠f:=fun e'=>hnv b k ds (e'▸e)
   refine .inr ⟨ds,by rw [hh i this,e],Nat.le_refl _,fun hb'=>⟨hb i this,?_⟩⟩
   simp only [World.shape?]
   rw [hold _ (hi.lt i (by rw [e];exact hb'))]
  gone:=fun i e=>by
   have:i≠f:=fun e'=>hng (e'▸e)
   rw [hh i this,e]
  smap:=fun i l e=>by
   have:i≠f:=fun e'=>hns l (e'▸e)
   exact ⟨⟨l,by rw [hh i this,e]⟩,hb i this⟩}
 have hnew:(w.alloc (.cells cs T)).heap[w.heap.size]?=some (.cells cs T (0,0)):=by show (w.heap.push _)[w.heap.size]?=_;simp
 refine ⟨{x:=hi.x.step ext.size rfl rfl rfl hx.2.2.1 hx.2.2.2 ext.new ext.pubnew (fun b l _=>hold b l),lt:=fun i hi'=>?_,inj:=fun i j h1 h2 e=>?_,publt:=fun b o p=>?_,box:=fun i ds e=>?_,front:=fun i n k e hn=>?_,vec:=fun i b k ds e=>?_,smap:=fun i l e=>?_},ext⟩
 ·by_cases e:i=f
  ·subst e;rw [hbf];simp
  ·rw [hh i e] at hi';rw [hb i e];have:=hi.lt i hi';simp;omega
 ·by_cases e1:i=f <;>by_cases e2:j=f
  ·rw [e1,e2]
  ·subst e1;rw [hbf,hb j e2] at e;rw [hh j e2] at h2;have:=hi.lt j h2;omega
  ·subst e2;rw [hbf,hb i e1] at e;rw [hh i e1] at h1;have:=hi.lt i h1;omega
  ·rw [hb i e1,hb j e2] at e;rw [hh i e1] at h1;rw [hh j e2] at h2;exact hi.inj i j h1 h2 e
 ·rcases p with p | ⟨rfl,_⟩
  ·have:=hi.publt b o p;simp;omega
  ·simp
 ·by_cases e1:i=f
  ·subst e1
   obtain ⟨p1,p2⟩:=hbox ds e
   rw [hbf]
   refine ⟨fun o p=>?_,cs,T,hnew,p2.size,fun j c d a b=>⟨(p2.rel j c d a b).ext ext,p2.one j c a⟩⟩
   rcases p with p | ⟨_,p⟩
   ·have:=hi.publt _ o p;omega
   ·exact p1 o p
  ·rw [hh i e1] at e
   obtain ⟨p1,cs',T',p2,p3,p4⟩:=hi.box i ds e
   have hlt:=hi.lt i (by rw [e];rfl)
   rw [hb i e1]
   refine ⟨fun o p=>?_,cs',T',by rw [hold _ hlt];exact p2,p3,fun j c d a b=>⟨(p4 j c d a b).1.ext ext,(p4 j c d a b).2⟩⟩
   rcases p with p | ⟨p,_⟩
   ·exact p1 o p
   ·omega
 ·by_cases e1:i=f
  ·subst e1
   rw [hbf]
   refine ⟨⟨cs,T,hnew⟩,fun o ho p=>?_⟩
   rcases p with p | ⟨_,p⟩
   ·have:=hi.publt _ o p;omega
   ·exact hfr n k e hn o ho p
  ·rw [hh i e1] at e
   obtain ⟨⟨cs',T',p2⟩,p3⟩:=hi.front i n k e hn
   have hlt:=hi.lt i (by rw [e];simp [O.has,hn])
   rw [hb i e1]
   refine ⟨⟨cs',T',by rw [hold _ hlt];exact p2⟩,fun o ho p=>?_⟩
   rcases p with p | ⟨p,_⟩
   ·exact p3 o ho p
   ·omega
 ·by_cases e1:i=f
  ·subst e1
   obtain ⟨p0,p1,p2⟩:=hvec b k ds e
   rw [hbf]
   refine ⟨fun hb'=>(by rw [p0] at hb';cases hb'),fun _=>⟨fun o p=>?_,cs,T,hnew,p2.size,fun j c d a b=>⟨(p2.rel j c d a b).1.ext ext,(p2.rel j c d a b).2⟩⟩⟩
   rcases p with p | ⟨_,p⟩
   ·have:=hi.publt _ o p;omega
   ·exact p1 o p
  ·rw [hh i e1] at e
   obtain ⟨p0,p⟩:=hi.vec i b k ds e
   refine ⟨p0,fun hb'=>?_⟩
   obtain ⟨p1,cs',T',p2,p3,p4⟩:=p hb'
   have hlt:=hi.lt i (by rw [e];exact hb')
   rw [hb i e1]
   refine ⟨fun o p=>?_,cs',T',by rw [hold _ hlt];exact p2,p3,fun j c d a b=>⟨(p4 j c d a b).1.ext ext,(p4 j c d a b).2⟩⟩
   rcases p with p | ⟨p,_⟩
   ·exact p1 o p
   ·omega
 ·have e1:i≠f:=fun e'=>hsm l (e'▸e)
  rw [hh i e1] at e
  obtain ⟨p1,es,ck,p2,p3,p4⟩:=hi.smap i l e
  have hlt:=hi.lt i (by rw [e];rfl)
  rw [hb i e1]
  refine ⟨fun o p=>?_,es,ck,by rw [hold _ hlt];exact p2,p3,fun j e p a b=>⟨(p4 j e p a b).1,(p4 j e p a b).2.mono ext.pub ext.sgm⟩⟩
  rcases p with p | ⟨p,_⟩
  ·exact p1 o p
  ·omega
theorem alloc_pub {w:World} {G:Gh} {h:Hp} {cs:Array Value} {T:TypeId} {fr:Nat×Nat} (hi:Inv w G h):
  Inv (w.alloc (.cells cs T fr)) ⟨fun x o=>G.pub x o\/x=w.heap.size,G.blk,G.sg,G.rv,G.rb⟩ h/\Ext w G h (w.alloc (.cells cs T fr)) ⟨fun x o=>G.pub x o\/x=w.heap.size,G.blk,G.sg,G.rv,G.rb⟩ h:=by
 have hold: ∀b,b<w.heap.size->(w.alloc (.cells cs T fr)).heap[b]?=w.heap[b]?:=fun b e=>RowKit.Below.heap_alloc _ _ _ e
 have ext:Ext w G h (w.alloc (.cells cs T fr)) ⟨fun x o=>G.pub x o\/x=w.heap.size,G.blk,G.sg,G.rv,G.rb⟩ h:= {
  os:=rfl
  sgm:=fun _ _ e=>e
  idm:=fun j m e=>⟨m,e⟩
  rvm:=fun j R e=>⟨⟨R,e⟩,rfl⟩
  rbnew:=fun j R e b hb=> .inl ⟨j,R,e,hb⟩
  idn:=fun j m e=>⟨j,m,e⟩
  sgn:=fun _=>rfl
  sgw:=fun _ _ e=> .inl e
  tape:=rfl
  output:=rfl
  size:=by simp
  pub:=fun b o p=>⟨.inl p,World.cell?_alloc_lt _ _ _ (hi.publt b o p)⟩
  box:=fun i ds e=>⟨⟨ds,e,rfl⟩,rfl⟩
  tok:=fun i n k e=>⟨n,e,Nat.le_refl _,fun _ hn=>⟨rfl,by simp only [World.shape?];rw [hold _ (hi.lt i (by rw [e];simp [O.has,hn]))]⟩⟩
  others:=fun b hb' _ _=>hold b hb'
  new:=fun i hi'=> .inl ⟨i,hi',rfl⟩
  pubnew:=fun b o p=>by
   rcases p with p | rfl
   ·exact .inl p
   ·exact .inr (.inl (Nat.le_refl _))
  vec:=fun i b k ds e=> .inr ⟨ds,e,Nat.le_refl _,fun hb'=>⟨rfl,by simp only [World.shape?];rw [hold _ (hi.lt i (by rw [e];exact hb'))]⟩⟩
  gone:=fun _ e=>e
  smap:=fun _ l e=>⟨⟨l,e⟩,rfl⟩}
 refine ⟨{x:=hi.x.step ext.size rfl rfl rfl (fun _ _ e=>e) (fun _ _ e=>e) ext.new ext.pubnew (fun b l _=>hold b l),lt:=fun i hi'=>?_,inj:=fun i j h1 h2 e=>hi.inj i j h1 h2 e,publt:=fun b o p=>?_,box:=fun i ds e=>?_,front:=fun i n k e hn=>?_,vec:=fun i b k ds e=>?_,smap:=fun i l e=>?_},ext⟩
 ·have:=hi.lt i hi';simp;omega
 ·rcases p with p | rfl
  ·have:=hi.publt b o p;simp;omega
  ·simp
 ·obtain ⟨p1,cs',T',p2,p3,p4⟩:=hi.box i ds e
  have hlt:=hi.lt i (by rw [e];rfl)
  refine ⟨fun o p=>?_,cs',T',by rw [hold _ hlt];exact p2,p3,fun j c d a b=>⟨(p4 j c d a b).1.ext ext,(p4 j c d a b).2⟩⟩
  rcases p with p | p
  ·exact p1 o p
  ·exact absurd p (Nat.ne_of_lt hlt)
 ·obtain ⟨⟨cs',T',p2⟩,p3⟩:=hi.front i n k e hn
  have hlt:=hi.lt i (by rw [e];simp [O.has,hn])
  refine ⟨⟨cs',T',by rw [hold _ hlt];exact p2⟩,fun o ho p=>?_⟩
  rcases p with p | p
  ·exact p3 o ho p
  ·exact absurd p (Nat.ne_of_lt hlt)
 ·obtain ⟨p0,p⟩:=hi.vec i b k ds e
  refine ⟨p0,fun hb'=>?_⟩
  obtain ⟨p1,cs',T',p2,p3,p4⟩:=p hb'
  have hlt:=hi.lt i (by rw [e];exact hb')
  refine ⟨fun o p=>?_,cs',T',by rw [hold _ hlt];exact p2,p3,fun j c d a b=>⟨(p4 j c d a b).1.ext ext,(p4 j c d a b).2⟩⟩
  rcases p with p | p
  ·exact p1 o p
  ·exact absurd p (Nat.ne_of_lt hlt)
 ·obtain ⟨p1,es,ck,p2,p3,p4⟩:=hi.smap i l e
  have hlt:=hi.lt i (by rw [e];rfl)
  refine ⟨fun o p=>?_,es,ck,by rw [hold _ hlt];exact p2,p3,fun j e p a b=>⟨(p4 j e p a b).1,(p4 j e p a b).2.mono ext.pub ext.sgm⟩⟩
  rcases p with p | p
  ·exact p1 o p
  ·exact absurd p (Nat.ne_of_lt hlt)
theorem drew_step {w:World} {G:Gh} {h:Hp} (hi:Inv w G h):Inv w.drew G h/\Ext w G h w.drew G h:=by
 have ext:Ext w G h w.drew G h:=⟨rfl,rfl,rfl,Nat.le_refl _,fun _ _ p=>⟨p,rfl⟩,fun _ ds e=>⟨⟨ds,e,rfl⟩,rfl⟩,fun _ n _ e=>⟨n,e,Nat.le_refl _,fun _ _=>⟨rfl,rfl⟩⟩,fun _ _ _ _=>rfl,fun i e=> .inl ⟨i,e,rfl⟩,fun _ _ p=> .inl p,
  fun _ _ _ ds e=> .inr ⟨ds,e,Nat.le_refl _,fun _=>⟨rfl,rfl⟩⟩,fun _ e=>e,fun _ l e=>⟨⟨l,e⟩,rfl⟩,fun _ _ e=>e,fun _ m e=>⟨m,e⟩,fun _ R e=>⟨⟨R,e⟩,rfl⟩,fun i R e b hb=> .inl ⟨i,R,e,hb⟩,fun i m e=>⟨i,m,e⟩,fun _=>rfl,fun _ _ e=> .inl e⟩
 exact ⟨⟨hi.lt,hi.inj,hi.publt,fun i ds e=>by
  obtain ⟨p1,cs',T',p2,p3,p4⟩:=hi.box i ds e
  exact ⟨p1,cs',T',p2,p3,fun j c d a b=>⟨(p4 j c d a b).1.ext ext,(p4 j c d a b).2⟩⟩,hi.front,fun i b k ds e=>by
  obtain ⟨p0,p⟩:=hi.vec i b k ds e
  refine ⟨p0,fun hb=>?_⟩
  obtain ⟨p1,cs',T',p2,p3,p4⟩:=p hb
  exact ⟨p1,cs',T',p2,p3,fun j c d a b=>⟨(p4 j c d a b).1.ext ext,(p4 j c d a b).2⟩⟩,fun i l e=>by
  obtain ⟨p1,es,ck,p2,p3,p4⟩:=hi.smap i l e
  exact ⟨p1,es,ck,p2,p3,fun j e p a b=>⟨(p4 j e p a b).1,(p4 j e p a b).2.mono ext.pub ext.sgm⟩⟩,
  hi.x.step (Nat.le_refl _) rfl rfl rfl (fun _ _ e=>e) (fun _ _ e=>e) ext.new ext.pubnew (fun _ _ _=>rfl)⟩,ext⟩
theorem happ_al (h:Hp) (f:Nat) (d:Option D) (ob:O):happ h f {d:=d,al:= [ob]} =fun i=>if i=f then ob else h i:=by
 funext i
 simp only [happ,List.length_cons,List.length_nil,List.find?_nil]
 by_cases e:i=f
 ·subst e;simp
 ·rw [if_neg (by omega),if_neg e]
theorem Sound.al {ow:Prop} {d:D} {ob:O} (hgd:gd=false) (hk:K ow {d:=some d,al:= [ob]})
  (hs:ow->g=true-> ∀w G h a,Inv w G h->h f= .dead->Rel ev w G h a-> ∃v w' G',(execOp a.eval o).run P w= .ok (.value v) w'/\
   Inv w' G' (fun i=>if i=f then ob else h i)/\Ext w G h w' G' (fun i=>if i=f then ob else h i)/\Rv w' G' (fun i=>if i=f then ob else h i) v d):
  Sound P o ev hpR f gd g K:=by
 refine ⟨ow,_,hk,fun hg _=>(by rw [hgd] at hg;cases hg),by simp,fun ho hg=>?_⟩
 intro w G h a K Q hi _ hd hr hk
 obtain ⟨v,w',G',e,i',x',r⟩:=hs ho hg w G h a hi (by simpa using hd 0 (by simp)) hr
 rw [happ_al] at hk
 exact wp_of_run e (hk v w' G' (fun d' e'=>by cases e';exact r) i' x')
theorem Sound.al0 {ow:Prop} {d:D} (hgd:gd=false) (hk:K ow {d:=some d})
  (hs:ow->g=true-> ∀w G h a,Inv w G h->Rel ev w G h a-> ∃v w' G',(execOp a.eval o).run P w= .ok (.value v) w'/\Inv w' G' h/\Ext w G h w' G' h/\Rv w' G' h v d):
  Sound P o ev hpR f gd g K:=by
 refine ⟨ow,_,hk,fun hg _=>(by rw [hgd] at hg;cases hg),by simp,fun ho hg=>?_⟩
 intro w G h a K Q hi _ hd hr hk
 obtain ⟨v,w',G',e,i',x',r⟩:=hs ho hg w G h a hi hr
 rw [happ_pure] at hk
 exact wp_of_run e (hk v w' G' (fun d' e'=>by cases e';exact r) i' x')
theorem run_zero {w:World} {t:TypeId} {z:List Value} (hz:zerosOf P t=some z): ∃v,(zeroValue t).run P w= .ok v w/\v.cells.toList=z:=by
 simp only [zerosOf,Option.map_eq_some_iff,Option.bind_eq_some_iff] at hz
 obtain ⟨v,⟨i,hi,hv⟩,rfl⟩:=hz
 exact ⟨v,by simp [zeroValue,run_typeInfo _ hi,Result.andThen,hv],rfl⟩
theorem zeroE_rel {w:World} {G:Gh} {v:Value} (h:okZ v=true):RvE w G v (zeroE v)/\v.oneCell'=true:=by
 unfold okZ at h
 unfold zeroE
 by_cases e:isNilV v=true
 ·rw [if_pos e]
  have:v= .slice none 0 0:=by
   unfold isNilV at e
   split at e
   ·rfl
   ·cases e
  subst this
  exact ⟨.nils fun _=>rfl,rfl⟩
 ·rw [if_neg e]
  simp [e] at h
  exact ⟨.v h,okV.cell h⟩
theorem zeros_rel {w:World} {G:Gh} {h:Hp} {z:List Value} (hz:z.all okZ=true):RvA w G h z.toArray (z.map fun v=> .e (zeroE v)):=by
 rw [List.all_eq_true] at hz
 refine ⟨by simp,fun j c hc=>?_,fun j c d hc hd=>?_⟩
 ·exact (zeroE_rel (w:=w) (G:=G) (hz c (List.mem_of_getElem? (by simpa using hc)))).2
 ·simp only [List.getElem?_map,Option.map_eq_some_iff] at hd
  obtain ⟨c',hc',rfl⟩:=hd
  simp at hc
  rw [hc] at hc';cases hc'
  exact .e (zeroE_rel (hz c (List.mem_of_getElem? hc))).1
theorem zerosD_rel {w:World} {G:Gh} {h:Hp} {z:List Value} (hz:z.all okZ=true):RvA w G h z.toArray (z.map zeroD):=by
 obtain ⟨h1,h2,h3⟩:=zeros_rel (w:=w) (G:=G) (h:=h) hz
 refine ⟨by simp,h2,fun j c d hc hd=>?_⟩
 simp only [List.getElem?_map,Option.map_eq_some_iff] at hd
 obtain ⟨c',hc',rfl⟩:=hd
 have hcc:c'=c:=by
  simp at hc
  rw [hc] at hc'
  exact (Option.some.inj hc').symm
 subst hcc
 have:=h3 j c' (.e (zeroE c')) hc (by simp only [List.getElem?_map,hc'];rfl)
 unfold zeroD
 unfold zeroE at this
 split
 ·rename_i hn
  unfold isNilV at hn
  split at hn
  ·exact .zs fun x e=>by cases e
  ·cases hn
 ·rename_i hn
  rw [if_neg hn] at this
  exact this
theorem ref_new {w':World} {G:Gh} {h:Hp} {f b:Nat} {pn:Nat->Prop} {ds:List D} :Rv w' (G.new b pn f) (fun i=>if i=f then .box ds else h i) (.pointer (some ⟨b,0,none⟩)) (.ref f 0):=by
 have:=Rv.ref (w:=w') (G:=G.new b pn f) (h:=fun i=>if i=f then O.box ds else h i) (i:=f) (off:=0) (ds:=ds) (by simp)
 simpa [Gh.new] using this
theorem s_alloc {t:TypeId} {z:List Value} (hz:zerosOf P t=some z) (hok:z.all okZ=true)
  (hk:opE P ev hpR f dr gd g (.alloc (z.map fun v=> .e (zeroE v))) K):Sound P ⟨dst,.alloc t,ty,pos,after,gu⟩ ev hpR f gd g K:=by
 simp only [opE] at hk
 obtain ⟨hgd,hk⟩:=hk
 refine Sound.al hgd hk fun _ hg w G h r hi hd hr=>?_
 obtain ⟨v,e1,e2⟩:=run_zero (w:=w) hz
 have e3:v.cells=z.toArray:=by rw [<-e2]
 obtain ⟨i1,x1⟩:=alloc_step (T:=t) (cs:=v.cells) (pn:=fun _=>False) (h':=fun i=>if i=f then .box (z.map fun v=> .e (zeroE v)) else h i) hi (.inl hd) (fun i e=>by simp [e])
  (fun ds e=>by simp at e;subst e;exact ⟨fun _ p=>p,by rw [e3];exact zeros_rel hok⟩) (fun n k e=>by simp at e)
 exact ⟨.pointer (some ⟨w.heap.size,0,none⟩),_,_,exec_v (w':=w.alloc (.cells v.cells t)) (by simp [Instr.alloc,e1,Result.andThen,newVar,newRow]),i1,x1,ref_new⟩
theorem s_box {t:TypeId} {yx:Operand} {x:X} (hx:cvX yx=some x)
  (hk:opE P ev hpR f dr gd g (.box x) K):Sound P ⟨dst,.box t yx,ty,pos,after,gu⟩ ev hpR f gd g K:=by
 simp only [opE] at hk
 obtain ⟨hgd,hk⟩:=hk
 obtain ⟨o1,d1,hk1,h1⟩:=evG_spec hk
 have key: ∀ {ds:List D} {ow:Prop},ds=d1.cells->(ow->o1/\d1.stor=true)->K ow {d:=some (.ref f 0),al:= [.box ds]} ->Sound P ⟨dst,.box t yx,ty,pos,after,gu⟩ ev hpR f gd g K:=by
  intro ds ow hds hl hk1
  refine Sound.al hgd hk1 fun p1 hg w G h r hi hd hr=>?_
  have hv:=(h1 (fun d' e=>hr yx x d' hx e) hg (hl p1).1).cells (hl p1).2
  obtain ⟨i1,x1⟩:=alloc_step (T:=t) (cs:=(r.eval yx).cells) (pn:=fun _=>False) (h':=fun i=>if i=f then .box ds else h i) hi (.inl hd) (fun i e=>by simp [e])
   (fun ds' e=>by simp at e;subst e;exact ⟨fun _ p=>p,by rw [hds];exact hv⟩) (fun n k e=>by simp at e)
  refine ⟨.pointer (some ⟨w.heap.size,0,none⟩),_,_,exec_v (w':=w.alloc (.cells (r.eval yx).cells t)) (by simp [Instr.box,Result.andThen,newVar,newRow]),i1,x1,ref_new⟩
 split at hk1
 ·exact key rfl (fun p=>⟨p,rfl⟩) hk1
 ·rename_i h2
  refine key (ow:=o1/\d1.stor=true) ?_ id hk1
  cases d1 <;>first | rfl | exact absurd rfl (h2 _)
theorem happ_wr (h:Hp) (f:Nat) (d:Option D) (i:Nat) (ob:O) (tc:List Nat):happ h f {d:=d,wr:= [(i,ob)],tc:=tc} =fun j=>if j=i then ob else h j:=by
 funext j
 simp only [happ,List.length_nil,Nat.add_zero]
 rw [if_neg (by omega)]
 by_cases e:j=i
 ·subst e;simp
 ·rw [if_neg e]
  have:(i==j)=false:=by simp;exact fun e'=>e e'.symm
  simp [List.find?_cons,this]
theorem store_step {w:World} {G:Gh} {h h':Hp} {i off:Nat} {ds es:List D} {vs:Array Value} (hi:Inv w G h) (hb:h i= .box ds) (hv:RvA w G h vs es) (hl:off+es.length<=ds.length)
  (hh: ∀j,j≠i->h' j=h j) (hn:h' i= .box (ds.take off++es++ds.drop (off+es.length))):
  ∃w',(storeCells ⟨G.blk i,off,none⟩ vs.toList).run P w= .ok () w'/\Inv w' G h'/\Ext w G h w' G h':=by
 obtain ⟨hnp,cs,T,hc,hcl,hcr⟩:=hi.box i ds hb
 have e1:=hv.size
 have hrun:=run_storeCells_at (P:=P) (G.blk i) off T vs.toList 0 cs w hc (by simp;omega) (fun v hv'=>by
  obtain ⟨j,hj,rfl⟩:=List.getElem_of_mem hv'
  exact hv.one j _ (by simpa using hj))
 simp only [Nat.add_zero] at hrun
 refine ⟨_,hrun,?_⟩
 generalize hcs':(cs.toList.take off++vs.toList++cs.toList.drop (off+vs.toList.length)).toArray=cs'
 have hsz:cs'.size=cs.size:=by rw [<-hcs'];simp;omega
 have hget: ∀m,cs'[m]?=if off<=m/\m<off+es.length then vs[m-off]? else cs[m]?:=fun m=>by
  rw [<-hcs',List.getElem?_toArray,splice_get _ _ _ _ (by simp;omega)]
  simp [e1]
 have hrow:(w.setRow (G.blk i) cs').heap[G.blk i]?=some (.cells cs' T (0,0)):=setRow_heap w _ cs cs' T _ hc
 have hoth: ∀b,b≠G.blk i->(w.setRow (G.blk i) cs').heap[b]?=w.heap[b]?:=fun b e=>setRow_other w _ b cs' e
 have hne: ∀j,(h j).has=true->j≠i->G.blk j≠G.blk i:=fun j hj e e'=>e (hi.inj j i hj (by rw [hb];rfl) e')
 have hx:=hx_one hh (by rw [hb];rfl) (by rw [hn];rfl)
 have ext:Ext w G h (w.setRow (G.blk i) cs') G h':= {
  os:=rfl
  sgm:=fun _ _ e=>e
  idm:=fun j m e=>⟨m,hx.1 j m e⟩
  rvm:=fun j R e=>⟨⟨R,hx.2.1 j R e⟩,rfl⟩
  rbnew:=fun j R e b hb=> .inl ⟨j,R,hx.2.2.2 j R e,hb⟩
  idn:=fun j m e=>⟨j,m,hx.2.2.1 j m e⟩
  sgn:=fun _=>rfl
  sgw:=fun _ _ e=> .inl e
  tape:=rfl
  output:=rfl
  size:=by simp
  pub:=fun b o p=>⟨p,World.cell?_of_block (hoth b (fun e=>hnp o (e▸p)))⟩
  box:=fun j ds' e=>by
   by_cases ej:j=i
   ·subst ej;rw [hb] at e;cases e
    exact ⟨⟨_,hn,by simp;omega⟩,rfl⟩
   ·exact ⟨⟨ds',by rw [hh j ej,e],rfl⟩,rfl⟩
  tok:=fun j n k e=>by
   have ej:j≠i:=fun ej=>by subst ej;rw [hb] at e;cases e
   exact ⟨n,by rw [hh j ej,e],Nat.le_refl _,fun _ h0=>⟨rfl,by simp only [World.shape?];rw [hoth _ (hne j (by rw [e];simp [O.has,h0]) ej)]⟩⟩
  others:=fun b hb' ho _=>hoth b (fun e=>ho i (by rw [hb];rfl) e.symm)
  new:=fun j hj=>by
   by_cases ej:j=i
   ·subst ej;exact .inl ⟨j,by rw [hb];rfl,rfl⟩
   ·rw [hh j ej] at hj;exact .inl ⟨j,hj,rfl⟩
  pubnew:=fun _ _ p=> .inl p
  vec:=fun j b k ds' e=>by
   have ej:j≠i:=fun ej=>by subst ej;rw [hb] at e;cases e
   exact .inr ⟨ds',by rw [hh j ej,e],Nat.le_refl _,fun hb'=>⟨rfl,by simp only [World.shape?];rw [hoth _ (hne j (by rw [e];exact hb') ej)]⟩⟩
  gone:=fun j e=>by
   have ej:j≠i:=fun ej=>by subst ej;rw [hb] at e;cases e
   rw [hh j ej,e]
  smap:=fun j l e=>by
   have ej:j≠i:=fun ej=>by subst ej;rw [hb] at e;cases e
   exact ⟨⟨l,by rw [hh j ej,e]⟩,rfl⟩}
 have hhas: ∀j,(h' j).has=true->(h j).has=true:=fun j hj=>by
  by_cases ej:j=i
  ·subst ej;rw [hb];rfl
  ·rw [hh j ej] at hj;exact hj
 refine ⟨{x:=hi.x.step ext.size rfl rfl rfl hx.2.2.1 hx.2.2.2 ext.new ext.pubnew (fun b _ q=>hoth b (fun e=>q i (by rw [hb];rfl) e.symm)),lt:=fun j hj=>by rw [setRow_size];exact hi.lt j (hhas j hj),inj:=fun a b p q e=>hi.inj a b (hhas a p) (hhas b q) e,publt:=fun b o p=>by rw [setRow_size];exact hi.publt b o p,box:=fun j ds' e=>?_,front:=fun j n k e h0=>?_,vec:=fun j b k ds' e=>?_,smap:=fun j l e=>?_},ext⟩
 ·by_cases ej:j=i
  ·subst ej
   rw [hn] at e;cases e
   refine ⟨hnp,cs',T,hrow,by simp;omega,fun m c d hm hd=>?_⟩
   rw [hget] at hm
   rw [splice_get _ _ _ _ hl] at hd
   split at hm
   ·rw [if_pos (by assumption)] at hd;exact ⟨(hv.rel _ _ _ hm hd).ext ext,hv.one _ _ hm⟩
   ·rw [if_neg (by assumption)] at hd;exact ⟨(hcr _ _ _ hm hd).1.ext ext,(hcr _ _ _ hm hd).2⟩
  ·rw [hh j ej] at e
   obtain ⟨p1,cs2,T2,p2,p3,p4⟩:=hi.box j ds' e
   exact ⟨p1,cs2,T2,by rw [hoth _ (hne j (by rw [e];rfl) ej)];exact p2,p3,fun m c d a b=>⟨(p4 m c d a b).1.ext ext,(p4 m c d a b).2⟩⟩
 ·have ej:j≠i:=fun ej=>by subst ej;rw [hn] at e;cases e
  rw [hh j ej] at e
  obtain ⟨⟨cs2,T2,p2⟩,p3⟩:=hi.front j n k e h0
  exact ⟨⟨cs2,T2,by rw [hoth _ (hne j (by rw [e];simp [O.has,h0]) ej)];exact p2⟩,p3⟩
 ·have ej:j≠i:=fun ej=>by subst ej;rw [hn] at e;cases e
  rw [hh j ej] at e
  obtain ⟨p0,p⟩:=hi.vec j b k ds' e
  refine ⟨p0,fun hb'=>?_⟩
  obtain ⟨p1,cs2,T2,p2,p3,p4⟩:=p hb'
  exact ⟨p1,cs2,T2,by rw [hoth _ (hne j (by rw [e];exact hb') ej)];exact p2,p3,fun m c d a b=>⟨(p4 m c d a b).1.ext ext,(p4 m c d a b).2⟩⟩
 ·have ej:j≠i:=fun ej=>by subst ej;rw [hn] at e;cases e
  rw [hh j ej] at e
  obtain ⟨p1,es2,ck,p2,p3,p4⟩:=hi.smap j l e
  exact ⟨p1,es2,ck,by rw [hoth _ (hne j (by rw [e];rfl) ej)];exact p2,p3,fun m e p a b=>⟨(p4 m e p a b).1,(p4 m e p a b).2.mono ext.pub ext.sgm⟩⟩
theorem vec_write {w:World} {G:Gh} {h h':Hp} {i off k:Nat} {ds es:List D} {vs cs:Array Value} {T:TypeId} (hi:Inv w G h) (hb:h i= .vec true k ds) (hc:w.heap[G.blk i]?=some (.cells cs T (0,0)))
  (hv:RvA w G h vs es) (hl:off<=ds.length) (hroom:off+es.length<=cs.size)
  (hh: ∀j,j≠i->h' j=h j) (hn:h' i= .vec true k (ds.take off++es++ds.drop (off+es.length))):
  ∃w' cs',(storeCells ⟨G.blk i,off,none⟩ vs.toList).run P w= .ok () w'/\Inv w' G h'/\Ext w G h w' G h'/\w'.heap[G.blk i]?=some (.cells cs' T (0,0))/\cs'.size=cs.size:=by
 obtain ⟨hnp,cs0,T0,hc0,hcl,hcr⟩:=(hi.vec i true k ds hb).2 rfl
 rw [hc] at hc0
 simp only [Option.some.injEq,Obj.cells.injEq] at hc0
 obtain ⟨rfl,rfl,_⟩:=hc0
 have e1:=hv.size
 have hrun:=run_storeCells_at (P:=P) (G.blk i) off T vs.toList 0 cs w hc (by simp;omega) (fun v hv'=>by
  obtain ⟨j,hj,rfl⟩:=List.getElem_of_mem hv'
  exact hv.one j _ (by simpa using hj))
 simp only [Nat.add_zero] at hrun
 generalize hcs':(cs.toList.take off++vs.toList++cs.toList.drop (off+vs.toList.length)).toArray=cs' at hrun
 have hsz:cs'.size=cs.size:=by rw [<-hcs'];simp;omega
 have hget: ∀m,cs'[m]?=if off<=m/\m<off+es.length then vs[m-off]? else cs[m]?:=fun m=>by
  rw [<-hcs',List.getElem?_toArray,splice_get _ _ _ _ (by simp;omega)]
  simp [e1]
 have hrow:(w.setRow (G.blk i) cs').heap[G.blk i]?=some (.cells cs' T (0,0)):=setRow_heap w _ cs cs' T _ hc
 have hoth: ∀b,b≠G.blk i->(w.setRow (G.blk i) cs').heap[b]?=w.heap[b]?:=fun b e=>setRow_other w _ b cs' e
 have hne: ∀j,(h j).has=true->j≠i->G.blk j≠G.blk i:=fun j hj e e'=>e (hi.inj j i hj (by rw [hb];rfl) e')
 have hlen:ds.length<=(ds.take off++es++ds.drop (off+es.length)).length:=by simp;omega
 have hx:=hx_one hh (by rw [hb];rfl) (by rw [hn];rfl)
 have ext:Ext w G h (w.setRow (G.blk i) cs') G h':= {
  os:=rfl
  sgm:=fun _ _ e=>e
  idm:=fun j m e=>⟨m,hx.1 j m e⟩
  rvm:=fun j R e=>⟨⟨R,hx.2.1 j R e⟩,rfl⟩
  rbnew:=fun j R e b hb=> .inl ⟨j,R,hx.2.2.2 j R e,hb⟩
  idn:=fun j m e=>⟨j,m,hx.2.2.1 j m e⟩
  sgn:=fun _=>rfl
  sgw:=fun _ _ e=> .inl e
  tape:=rfl
  output:=rfl
  size:=by simp
  pub:=fun b o p=>⟨p,World.cell?_of_block (hoth b (fun e=>hnp o (e▸p)))⟩
  box:=fun j ds' e=>by
   have ej:j≠i:=fun ej=>by subst ej;rw [hb] at e;cases e
   exact ⟨⟨ds',by rw [hh j ej,e],rfl⟩,rfl⟩
  tok:=fun j n k e=>by
   have ej:j≠i:=fun ej=>by subst ej;rw [hb] at e;cases e
   exact ⟨n,by rw [hh j ej,e],Nat.le_refl _,fun _ h0=>⟨rfl,by simp only [World.shape?];rw [hoth _ (hne j (by rw [e];simp [O.has,h0]) ej)]⟩⟩
  others:=fun b hb' ho _=>hoth b (fun e=>ho i (by rw [hb];rfl) e.symm)
  new:=fun j hj=>by
   by_cases ej:j=i
   ·subst ej;exact .inl ⟨j,by rw [hb];rfl,rfl⟩
   ·rw [hh j ej] at hj;exact .inl ⟨j,hj,rfl⟩
  pubnew:=fun _ _ p=> .inl p
  vec:=fun j b k ds' e=>by
   by_cases ej:j=i
   ·subst ej;rw [hb] at e;cases e
    exact .inr ⟨_,hn,hlen,fun _=>⟨rfl,by rw [shape_size hrow,shape_size hc,hsz]⟩⟩
   ·exact .inr ⟨ds',by rw [hh j ej,e],Nat.le_refl _,fun hb'=>⟨rfl,by simp only [World.shape?];rw [hoth _ (hne j (by rw [e];exact hb') ej)]⟩⟩
  gone:=fun j e=>by
   have ej:j≠i:=fun ej=>by subst ej;rw [hb] at e;cases e
   rw [hh j ej,e]
  smap:=fun j l e=>by
   have ej:j≠i:=fun ej=>by subst ej;rw [hb] at e;cases e
   exact ⟨⟨l,by rw [hh j ej,e]⟩,rfl⟩}
 have hhas: ∀j,(h' j).has=true->(h j).has=true:=fun j hj=>by
  by_cases ej:j=i
  ·subst ej;rw [hb];rfl
  ·rw [hh j ej] at hj;exact hj
 refine ⟨_,cs',hrun,{x:=hi.x.step ext.size rfl rfl rfl hx.2.2.1 hx.2.2.2 ext.new ext.pubnew (fun b _ q=>hoth b (fun e=>q i (by rw [hb];rfl) e.symm)),lt:=fun j hj=>by rw [setRow_size];exact hi.lt j (hhas j hj),inj:=fun a b p q e=>hi.inj a b (hhas a p) (hhas b q) e,publt:=fun b o p=>(by rw [setRow_size];exact hi.publt b o p),box:=fun j ds' e=>?_,front:=fun j n k e h0=>?_,vec:=fun j b k ds' e=>?_,smap:=fun j l e=>?_},ext,hrow,hsz⟩
 ·have ej:j≠i:=fun ej=>by subst ej;rw [hn] at e;cases e
  rw [hh j ej] at e
  obtain ⟨p1,cs2,T2,p2,p3,p4⟩:=hi.box j ds' e
  exact ⟨p1,cs2,T2,by rw [hoth _ (hne j (by rw [e];rfl) ej)];exact p2,p3,fun m c d a b=>⟨(p4 m c d a b).1.ext ext,(p4 m c d a b).2⟩⟩
 ·have ej:j≠i:=fun ej=>by subst ej;rw [hn] at e;cases e
  rw [hh j ej] at e
  obtain ⟨⟨cs2,T2,p2⟩,p3⟩:=hi.front j n k e h0
  exact ⟨⟨cs2,T2,by rw [hoth _ (hne j (by rw [e];simp [O.has,h0]) ej)];exact p2⟩,p3⟩
 ·by_cases ej:j=i
  ·subst ej
   rw [hn] at e;cases e
   refine ⟨fun hb'=>(by cases hb'),fun _=>⟨hnp,cs',T,hrow,by simp;omega,fun m c d hm hd=>?_⟩⟩
   rw [hget] at hm
   rw [splice_get' _ _ _ _ hl] at hd
   split at hm
   ·rw [if_pos (by assumption)] at hd;exact ⟨(hv.rel _ _ _ hm hd).ext ext,hv.one _ _ hm⟩
   ·rw [if_neg (by assumption)] at hd;exact ⟨(hcr _ _ _ hm hd).1.ext ext,(hcr _ _ _ hm hd).2⟩
  ·rw [hh j ej] at e
   obtain ⟨p0,p⟩:=hi.vec j b k ds' e
   refine ⟨p0,fun hb'=>?_⟩
   obtain ⟨p1,cs2,T2,p2,p3,p4⟩:=p hb'
   exact ⟨p1,cs2,T2,by rw [hoth _ (hne j (by rw [e];exact hb') ej)];exact p2,p3,fun m c d a b=>⟨(p4 m c d a b).1.ext ext,(p4 m c d a b).2⟩⟩
 ·have ej:j≠i:=fun ej=>by subst ej;rw [hn] at e;cases e
  rw [hh j ej] at e
  obtain ⟨p1,es2,ck,p2,p3,p4⟩:=hi.smap j l e
  exact ⟨p1,es2,ck,by rw [hoth _ (hne j (by rw [e];rfl) ej)];exact p2,p3,fun m e p a b=>⟨(p4 m e p a b).1,(p4 m e p a b).2.mono ext.pub ext.sgm⟩⟩
theorem s_store {t:TypeId} {ya yx:Operand} {a x:X} {ag:Bool} {n:Nat} (ha:cvX ya=some a) (hx:cvX yx=some x) (hinf: ∃i,P.info? t=some i) (hn:P.cellsOf t=n)
  (hk:opE P ev hpR f dr gd g (.store ag n a x) K):Sound P ⟨dst,.store t ya yx,ty,pos,after,gu⟩ ev hpR f gd g K:=by
 obtain ⟨inf,hinf⟩:=hinf
 simp only [opE] at hk
 obtain ⟨hgd,hk⟩:=hk
 obtain ⟨o1,d0,hk1,h00⟩:=evG_spec hk
 have h1:= @nr_spec _ _ _ _ @h00
 generalize d0.nr=d1 at hk1 h1
 obtain ⟨o2,d2,hk2,h2⟩:=evG_spec hk1
 split at hk2
 case h_3=>exact hk2.elim
 case h_2=>
  rename_i i off
  split at hk2
  case h_2=>exact hk2.elim
  rename_i fl k0 ds hds
  refine ⟨_,_,hk2,fun hg _=>(by rw [hgd] at hg;cases hg),by simp,fun ⟨p1,p2,p3,p4,p5⟩ hg=>?_⟩
  intro w G h r K Q hi ht _ hr hk
  have hb:h i= .vec fl k0 ds:=by rw [ht i (by simp),hds]
  obtain ⟨b,e1,_,e3⟩:=rv_vref (h1 (fun d' e=>hr ya a d' ha e) hg p1)
  obtain ⟨rfl,rfl⟩:=e3 _ _ _ hb
  have hv:=(h2 (fun d' e=>hr yx x d' hx e) hg p2).cells p5
  rw [happ_wr] at hk
  obtain ⟨_,cs,T,hc,hcl,_⟩:=(hi.vec i true k0 ds hb).2 rfl
  obtain ⟨w',cs',q1,q2,q3,_⟩:=vec_write (P:=P) (off:=off) (h':=fun j=>if j=i then .vec true k0 (ds.take off++d2.cells++ds.drop (off+n)) else h j) hi hb hc hv (by omega) (by omega) (fun j e=>by simp [e]) (by simp [p3])
  have hsz:(r.eval yx).cells.size=n:=by rw [hv.size,p3]
  have hrun:(execOp r.eval ⟨dst,.store t ya yx,ty,pos,after,gu⟩).run P w= .ok .skip w':=by
   have hs: ¬(r.eval yx).cells.size≠P.cellsOf t:=by rw [hn];simp [hsz]
   simp only [execOp,Instr.storeAt,e1,Instr.sureAddr,storeVar,Sem.run_bind,Sem.run_pure,Result.andThen,run_sizeOf w hinf,if_neg hs]
   rw [q1]
  unfold Oper.wp
  rw [hrun]
  exact hk undef w' G (fun d' e'=>by cases e') q2 q3
 rename_i i off
 split at hk2
 case h_2=>exact hk2.elim
 rename_i ds hds
 refine ⟨_,_,hk2,fun hg _=>(by rw [hgd] at hg;cases hg),by simp,fun ⟨p1,p2,p3,p4,p5⟩ hg=>?_⟩
 intro w G h r K Q hi ht _ hr hk
 have hb:h i= .box ds:=by rw [ht i (by simp),hds]
 obtain ⟨e1,_⟩:=rv_ref (h1 (fun d' e=>hr ya a d' ha e) hg p1)
 have hv:=(h2 (fun d' e=>hr yx x d' hx e) hg p2).cells p5
 rw [happ_wr] at hk
 obtain ⟨w',q1,q2,q3⟩:=store_step (P:=P) (off:=off) (h':=fun j=>if j=i then .box (ds.take off++d2.cells++ds.drop (off+n)) else h j) hi hb hv (by omega) (fun j e=>by simp [e]) (by simp [p3])
 have hsz:(r.eval yx).cells.size=n:=by rw [hv.size,p3]
 have hrun:(execOp r.eval ⟨dst,.store t ya yx,ty,pos,after,gu⟩).run P w= .ok .skip w':=by
  have hs: ¬(r.eval yx).cells.size≠P.cellsOf t:=by rw [hn];simp [hsz]
  simp only [execOp,Instr.storeAt,e1,Instr.sureAddr,storeVar,Sem.run_bind,Sem.run_pure,Result.andThen,run_sizeOf w hinf,if_neg hs]
  rw [q1]
 unfold Oper.wp
 rw [hrun]
 exact hk undef w' G (fun d' e'=>by cases e') q2 q3
theorem parts_get {ys:List (Nat×Operand)} : ∀ {xs:List (Nat×X)},parts? ys=some xs->xs.length=ys.length/\ ∀(j:Nat) y,ys[j]?=some y-> ∃x,xs[j]?=some (y.1,x)/\cvX y.2=some x:=by
 induction ys with
 | nil=>intro xs h;simp [parts?] at h;subst h;simp
 | cons y r ih=>
  intro xs h
  obtain ⟨i,y⟩:=y
  simp only [parts?,Option.bind_eq_some_iff,Option.map_eq_some_iff] at h
  obtain ⟨x,hx,xs',hxs,rfl⟩:=h
  obtain ⟨hl,hg⟩:=ih hxs
  refine ⟨by simp [hl],fun j y' hj=>?_⟩
  cases j with
  | zero=>simp at hj;subst hj;exact ⟨x,by simp,hx⟩
  | succ j=>simpa using hg j y' (by simpa using hj)
theorem build_rel {ps:Array (Nat×Operand)} {xs:List (Nat×X)} {zs:List Value} {pl:List (Nat×Nat×X)} {place:Nat->Option (Nat×Nat)} {o:Prop} {ds:List D} (hps:parts? ps.toList=some xs) (hz:zs.all okZ=true)
  (hpl:pl.length=xs.length/\ ∀(j:Nat) x,xs[j]?=some x-> ∃off n,pl[j]?=some (off,n,x.2)/\place x.1=some (off,n))
  (hl:ds.length=(pl.map fun p=>ev p.2.2).length)
  (h1: ∀ {w G h},g=true->o-> ∀(j:Nat) v d,(∀d',(pl.map fun p=>ev p.2.2)[j]?=some (some d')->Rv w G h v d')->ds[j]?=some d->Rv w G h v d)
  (hst: ∀d∈ds,d.stor=true) (hb: ∀j,j<pl.length->(((ds.getD j .zs).cells.length=(pl.getD j default).2.1)/\(pl.getD j default).1+(pl.getD j default).2.1<=zs.length))
  {w G h} {a:Act} (hr:Rel ev w G h a) (hg:g=true) (ho:o) {z:Array Value} (hzz:z=zs.toArray):
  ∃cs',Instr.fill place z (ps.map fun (i,x)=>(i,a.eval x)).toList=some cs'/\RvA w G h cs' (fillD (zs.map zeroD) ((pl.zip ds).map fun (p,d)=>(p.1,p.2.1,d.cells))):=by
 obtain ⟨hxl,hxg⟩:=parts_get hps
 obtain ⟨hpl1,hpl2⟩:=hpl
 subst hzz
 refine fill_rel place _ _ _ _ (zerosD_rel hz) (by simp at hl hxl ⊢;omega) fun j p q hp hq=>?_
 simp only [Array.toList_map,List.getElem?_map,Option.map_eq_some_iff] at hp hq
 obtain ⟨⟨i,y⟩,hy,rfl⟩:=hp
 obtain ⟨⟨p',d⟩,hpd,rfl⟩:=hq
 obtain ⟨hp',hd⟩:=List.getElem?_zip_eq_some.1 hpd
 obtain ⟨x,hx1,hx2⟩:=hxg j (i,y) hy
 obtain ⟨off,n,e1,e2⟩:=hpl2 j _ hx1
 rw [hp'] at e1;cases e1
 have hj:j<pl.length:=(List.getElem?_eq_some_iff.1 hp').1
 obtain ⟨b1,b2⟩:=hb j hj
 simp only [List.getD,hp',hd,Option.getD_some] at b1 b2
 refine ⟨e2,?_,b1,by simpa using b2⟩
 have hv:=h1 (w:=w) (G:=G) (h:=h) hg ho j (a.eval y) d (fun d' e=>hr y x d' hx2 (by simpa [hp'] using e)) hd
 exact hv.cells (hst d (List.mem_of_getElem? hd))
theorem places_get {fs:Array Field} : ∀ {xs:List (Nat×X)} {pl:List (Nat×Nat×X)},places? P fs xs=some pl->pl.length=xs.length/\
  ∀(j:Nat) x,xs[j]?=some x-> ∃fd,fs[x.1]?=some fd/\pl[j]?=some (fd.offset,P.cellsOf fd.type,x.2):=by
 intro xs
 induction xs with
 | nil=>intro pl h;simp [places?] at h;subst h;simp
 | cons x r ih=>
  intro pl h
  obtain ⟨i,x⟩:=x
  simp only [places?,Option.bind_eq_some_iff,Option.map_eq_some_iff] at h
  obtain ⟨fd,hfd,pl',hpl,rfl⟩:=h
  obtain ⟨hl,hg⟩:=ih hpl
  refine ⟨by simp [hl],fun j y hj=>?_⟩
  cases j with
  | zero=>simp at hj;subst hj;exact ⟨fd,hfd,rfl⟩
  | succ j=>simpa using hg j y (by simpa using hj)
theorem run_places {w:World} (fs:Array Field) (hf: ∀fd∈fs.toList,∃i,P.info? fd.type=some i):
  (fs.mapM fun f=>do pure (f.offset,<-sizeOf f.type):Sem (Array (Nat×Nat))).run P w= .ok (fs.map fun f=>(f.offset,P.cellsOf f.type)) w:=by
 have key: ∀(l:List Field),(∀fd∈l,∃i,P.info? fd.type=some i)->(l.mapM fun f=>Prod.mk f.offset<$>sizeOf f.type:Sem (List (Nat×Nat))).run P w= .ok (l.map fun f=>(f.offset,P.cellsOf f.type)) w:=by
  intro l
  induction l with
  | nil=>intro _;rfl
  | cons fd l ih=>
   intro h
   obtain ⟨i,hi⟩:=h fd (by simp)
   rw [List.mapM_cons]
   simp only [Sem.run_bind,Sem.run_map,run_sizeOf w hi,Result.andThen,Sem.run_pure,ih (fun x hx=>h x (by simp [hx])),List.map_cons]
 rw [Array.mapM_eq_mapM_toList]
 simp [key fs.toList hf,Result.andThen]
 apply Array.ext'
 simp
theorem s_build {t:TypeId} {z:List Value} {ps:Array (Nat×Operand)} {xs:List (Nat×X)} {pl:List (Nat×Nat×X)} (hz:zerosOf P t=some z) (hok:z.all okZ=true) (hps:parts? ps.toList=some xs)
  (hd:(∃fs,P.underlying t=some (.struct fs)/\places? P fs xs=some pl/\ ∀fd∈fs.toList,∃i,P.info? fd.type=some i)\/
   (∃n e,P.underlying t=some (.array n e)/\pl=xs.map (fun (i,x)=>(i * P.cellsOf e,P.cellsOf e,x))/\ ∃i,P.info? e=some i))
  (hk:opE P ev hpR f dr gd g (.build (z.map zeroD) pl) K):Sound P ⟨dst,.build t ps,ty,pos,after,gu⟩ ev hpR f gd g K:=by
 simp only [opE] at hk
 obtain ⟨o1,ds,hk1,hl1,h1⟩:=evGs_spec hk
 refine Sound.pure (tc:= []) hk1 fun ⟨p1,p23⟩ hg w G h r hi _ hr=>?_
 obtain ⟨p2,p3⟩:=buildOk_all p23
 obtain ⟨v,e1,e2⟩:=run_zero (w:=w) hz
 have e3:v.cells=z.toArray:=by rw [<-e2]
 simp only [List.length_map] at p3
 rcases hd with ⟨fs,hu,hpl,hf⟩ | ⟨n,e,hu,hpl,i,hi'⟩
 ·obtain ⟨q1,q2⟩:=places_get hpl
  obtain ⟨cs',c1,c2⟩:=build_rel (place:=((fs.map fun f=>(f.offset,P.cellsOf f.type))[·]?)) hps hok ⟨q1,fun j x hx=>by
   obtain ⟨fd,y1,y2⟩:=q2 j x hx
   exact ⟨_,_,y2,by simp [y1]⟩⟩ hl1 h1 p2 p3 hr hg p1 e3
  refine ⟨.agg cs',exec_v (w':=w) ?_,.agg c2.size c2.one c2.rel⟩
  simp only [Instr.build,Sem.run_bind,e1,Result.andThen,run_underlying hu,run_places fs hf,c1,Sem.run_pure]
 ·obtain ⟨cs',c1,c2⟩:=build_rel (place:=fun i=>some (i * P.cellsOf e,P.cellsOf e)) hps hok ⟨by rw [hpl];simp,fun j x hx=>by
   exact ⟨_,_,by rw [hpl];simp [hx],rfl⟩⟩ hl1 h1 p2 p3 hr hg p1 e3
  refine ⟨.agg cs',exec_v (w':=w) ?_,.agg c2.size c2.one c2.rel⟩
  simp only [Instr.build,Sem.run_bind,e1,Result.andThen,run_underlying hu,run_sizeOf w hi',c1,Sem.run_pure]
theorem RvA.list {w G h} {cs:Array Value} {ds:List E} (hl:cs.size=ds.length) (hr: ∀(j:Nat) c d,cs[j]?=some c->ds[j]?=some d->RvE w G c d):RvA w G h cs (ds.map .e):=by
 refine ⟨by simp [hl],fun j c hc=>?_,fun j c d hc hd=>?_⟩
 ·have hj:j<ds.length:=by rw [<-hl];exact (Array.getElem?_eq_some_iff.1 hc).1
  exact (hr j c _ hc (List.getElem?_eq_getElem hj)).cell
 ·simp only [List.getElem?_map,Option.map_eq_some_iff] at hd
  obtain ⟨d',hd,rfl⟩:=hd
  exact .e (hr j c d' hc hd)
theorem new_list {w':World} {G':Gh} {b n cap k:Nat} {T:TypeId} {fr:Nat×Nat} {cs:Array Value} {es:List (List E)} (hb:w'.heap[b]?=some (.cells cs T fr))
  (hp: ∀j,j<n * k->G'.pub b j) (hn:es.length=n) (hk: ∀e∈es,e.length=k) (hc:n<=cap) (hm:n<=maxN) (hs:n * k<=cs.size)
  (hr: ∀(j:Nat) c d,cs[j]?=some c->es.flatten[j]?=some d->RvE w' G' c d):RvE w' G' (.slice (some ⟨b,0,none⟩) n cap) (.sl es):=by
 refine .sl (fun j=>cs.getD j undef) hn hc hm hk (fun j hj=>?_) (fun j d hd=>?_)
 ·rw [Nat.zero_add];exact ⟨hp j hj,by simp [World.cell?,hb,show j<cs.size by omega]⟩
 ·have hj:j<n * k:=by rw [<-hn,<-flatten_len hk];exact (List.getElem?_eq_some_iff.1 hd).1
  have:=hr j _ d (Array.getElem?_eq_getElem (show j<cs.size by omega)) hd
  simpa [show j<cs.size by omega] using this
theorem fillE_props {k:Nat} : ∀(ps:List (Nat×List E)) (es:List (List E)),(∀e∈es,e.length=k)->(∀p∈ps,p.2.length=k)->(fillE es ps).length=es.length/\ ∀e∈fillE es ps,e.length=k:=by
 intro ps
 induction ps with
 | nil=>intro es h _;exact ⟨rfl,h⟩
 | cons p ps ih=>
  intro es h hp
  obtain ⟨i,x⟩:=p
  obtain ⟨a,b⟩:=ih (es.set i x) (fun e he=>by
   rcases List.mem_or_eq_of_mem_set he with he | rfl
   ·exact h e he
   ·exact hp (i,e) (by simp)) (fun q hq=>hp q (by simp [hq]))
  exact ⟨by rw [fillE,a];simp,b⟩
theorem fill_flat {k:Nat} (hk0:0<k): ∀(ps:List (Nat×List E)) (es:List (List E)),(∀e∈es,e.length=k)->(∀p∈ps,p.2.length=k/\p.1<es.length)->
  fillD (es.flatten.map .e) (ps.map fun p=>(p.1 * k,k,p.2.map .e))=(fillE es ps).flatten.map .e:=by
 intro ps
 induction ps with
 | nil=>intro es _ _;rfl
 | cons p ps ih=>
  intro es h hp
  obtain ⟨i,x⟩:=p
  obtain ⟨hx,hi⟩:=hp (i,x) (by simp)
  have hx:x.length=k:=hx
  have hi:i<es.length:=hi
  have hset: ∀e∈es.set i x,e.length=k:=fun e he=>by
   rcases List.mem_or_eq_of_mem_set he with he | rfl
   ·exact h e he
   ·exact hx
  have hflat:(es.flatten.map D.e).take (i * k)++x.map D.e++(es.flatten.map D.e).drop (i * k+(x.map D.e).length)=(es.set i x).flatten.map D.e:=by
   have hb:i * k+k<=es.flatten.length:=by rw [flatten_len h,<-Nat.succ_mul];exact Nat.mul_le_mul_right k hi
   apply List.ext_getElem?
   intro m
   rw [splice_get _ _ _ _ (by rw [List.length_map,List.length_map,hx];exact hb)]
   simp only [List.length_map,hx,List.getElem?_map]
   by_cases hm:m<es.flatten.length
   ·have e1:m / k<es.length:=by rw [flatten_len h] at hm;exact Nat.div_lt_of_lt_mul (by rw [Nat.mul_comm];exact hm)
    have e2:m / k * k+m % k=m:=by rw [Nat.mul_comm];exact Nat.div_add_mod m k
    have e3:=Nat.mod_lt m hk0
    have e4:(es.set i x).flatten[m]?=((es.set i x)[m / k]'(by simpa using e1))[m % k]?:=by
     rw [<-flatten_get hset (m / k) _ (m % k) (List.getElem?_eq_getElem (by simpa using e1)) e3,e2]
    have e5:es.flatten[m]?=(es[m / k])[m % k]?:=by
     rw [<-flatten_get h (m / k) _ (m % k) (List.getElem?_eq_getElem e1) e3,e2]
    rw [e4]
    by_cases e:i=m / k
    ·have h1:i * k<=m/\m<i * k+k:=by rw [e];omega
     rw [if_pos h1]
     congr 1
     have:m-i * k=m % k:=by rw [e];omega
     rw [this]
     simp [<-e]
    ·have h1: ¬(i * k<=m/\m<i * k+k):=fun ⟨a,b⟩=>e (by
      have:m / k=i:=by
       apply Nat.div_eq_of_lt_le
       ·exact a
       ·rw [Nat.succ_mul];exact b
      exact this.symm)
     rw [if_neg h1,e5]
     rw [List.getElem_set_ne e]
   ·have h1: ¬(i * k<=m/\m<i * k+k):=by omega
    rw [if_neg h1,List.getElem?_eq_none (by omega),List.getElem?_eq_none (by rw [flatten_len hset,List.length_set,<-flatten_len h];omega)]
  rw [List.map_cons,fillD]
  simp only
  rw [hflat,ih _ hset (fun q hq=>⟨(hp q (by simp [hq])).1,by simpa using (hp q (by simp [hq])).2⟩)]
  rfl
theorem zero_row {w:World} {G:Gh} {z:Array Value} {k n:Nat} (hz:z.toList.all okZ=true) (hk:z.size=k) (hk0:0<k):
  ∀(j:Nat) c d,((Array.range (n * k)).map (z[· % z.size]!))[j]?=some c->(List.replicate n (z.toList.map zeroE)).flatten[j]?=some d->RvE w G c d:=by
 intro j c d hc hd
 have hkk: ∀e∈List.replicate n (z.toList.map zeroE),e.length=k:=fun e he=>by rw [List.eq_of_mem_replicate he];simp [hk]
 have hj:j<n * k:=by
  have:=(Array.getElem?_eq_some_iff.1 hc).1
  simpa using this
 have e1:j / k<n:=Nat.div_lt_of_lt_mul (by rw [Nat.mul_comm];exact hj)
 have e2:j / k * k+j % k=j:=by rw [Nat.mul_comm];exact Nat.div_add_mod j k
 have e3:=Nat.mod_lt j hk0
 rw [<-e2,flatten_get hkk (j / k) (z.toList.map zeroE) (j % k) (by simp [e1]) e3] at hd
 have e4:j % z.size<z.size:=by rw [hk];exact e3
 simp only [List.getElem?_map,Option.map_eq_some_iff] at hd
 obtain ⟨v,hv,rfl⟩:=hd
 simp only [Array.getElem?_map,Option.map_eq_some_iff] at hc
 obtain ⟨j',hj',rfl⟩:=hc
 have:j'=j:=by
  have:=Array.getElem?_eq_some_iff.1 hj'
  obtain ⟨h1,h2⟩:=this
  simp at h2;exact h2.symm
 subst this
 rw [hk]
 have:z[j' % k]! =v:=by
  simp at hv
  rw [getElem!_def,hv]
 rw [this]
 rw [List.all_eq_true] at hz
 exact (zeroE_rel (hz v (List.mem_of_getElem? hv))).1
theorem RvA.congr {w G h} {cs:Array Value} {ds ds':List D} (r:RvA w G h cs ds) (e:ds=ds'):RvA w G h cs ds':=e▸r
theorem rva_e {w G h} {cs:Array Value} {ds:List E} (r:RvA w G h cs (ds.map .e)): ∀(j:Nat) c d,cs[j]?=some c->ds[j]?=some d->RvE w G c d:=fun j c d hc hd=>by
 have:=r.rel j c (.e d) hc (by simp [hd])
 cases this;assumption
theorem rv_seal {w:World} {G G':Gh} {h h':Hp} {t m:Nat} (ht:h t= .ids m) (hp:G'.pub=G.pub) (hb:G'.blk=G.blk) (hrv:G'.rv=G.rv) (hs: ∀j b,G.sg j=some b->G'.sg j=some b) (hh: ∀i,h' i=if i=t then .ids (m+1) else h i)
  {v:Value} {d:D} (r:Rv w G h v d):Rv w G' h' v d:=by
 have mv: ∀ {x d},RvE w G x d->RvE w G' x d:=fun h=>h.mono (fun b o p=>⟨by rw [hp];exact p,rfl⟩) hs
 have same: ∀ {i o},h i=o->(∀m,o≠ .ids m)->h' i=o:=fun {i o} e q=>by
  rw [hh,if_neg (fun q2=>by subst q2;rw [ht] at e;exact q m e.symm)]
  exact e
 have nd: ∀ {i},h i≠ .dead->h' i≠ .dead:=fun {i} e=>by
  rw [hh]
  split
  ·simp
  ·exact e
 have vec: ∀ {i b k ds},h' i= .vec b k ds->h i= .vec b k ds:=fun {i b k ds} e=>by
  rw [hh] at e
  split at e
  ·cases e
  ·exact e
 induction r with
 | e h=>exact .e (mv h)
 | agg hl h1 _ ih=>exact .agg hl h1 ih
 | own hx hk ht=>
  obtain ⟨N,e,l,q⟩:=ht
  refine .own (mv hx) hk ⟨N,same e (by simp),l,fun hn=>?_⟩
  rcases q hn with q | ⟨q0,cap,cs,T,fr,q1,q2,q3⟩
  ·exact .inl q
  ·exact .inr ⟨q0,cap,cs,T,fr,by rw [hb];exact q1,by rw [hb];exact q2,q3⟩
 | zs ha=>exact .zs ha
 | bs hb' hc hl hm=>exact .bs (same hb' (by simp)) hc (by rw [hb];exact hl) hm
 | rp u hu hr=>exact .rp u (by rw [hp];exact hu) fun j d hj=>mv (hr j d hj)
 | ref hb'=>rw [<-hb];exact .ref (same hb' (by simp))
 | refs hb'=>rw [<-hb];exact .refs (same hb' (by simp))
 | tup hl _ ih=>exact .tup hl ih
 | when _ hu ih=>exact .when ih hu
 | fn hl _ hl' _ ih ih'=>exact .fn hl ih hl' ih'
 | vec hd hm hc hv=>exact .vec (nd hd) hm hc fun b k ds e=>by rw [hb];exact hv _ _ _ (vec e)
 | vref hd hv=>exact .vref (nd hd) fun b k ds e=>by rw [hb];exact hv _ _ _ (vec e)
 | mp hb'=>rw [<-hb];exact .mp (same hb' (by simp))
 | rv hb' hc=>rw [<-hrv];exact .rv (same hb' (by simp)) (by rw [hrv];exact hc)
 | e0=>exact .e0
 | any=>exact .any
theorem seal_any {w:World} {G G':Gh} {h h':Hp} {t m x z:Nat} (hi:Inv w G h) (ht:h t= .ids m) (hx:x<w.heap.size) (hz: ∃cs T,w.heap[x]?=some (.cells cs T (0,0))/\z<=cs.size)
  (n1: ∀i,(h i).has=true->G.blk i≠x) (n2: ∀i R,h i= .res R->x∉G.rb i) (n3: ∀j c,G.sg j=some c->c.1≠x)
  (hG:G'=⟨G.pub,G.blk,fun j=>if j=m then some (x,z) else G.sg j,G.rv,G.rb⟩) (hh: ∀i,h' i=if i=t then .ids (m+1) else h i):
  Inv w G' h'/\ ∀w0 G0 h0,Ext w0 G0 h0 w G h->(w0.heap.size<=x\/ ∃i,(h0 i).has=true/\G0.blk i=x)->Ext w0 G0 h0 w G' h':=by
 have sgm: ∀j b,G.sg j=some b->G'.sg j=some b:=fun j b e=>by
  rw [hG]
  show (if j=m then _ else _)=_
  rw [if_neg (fun q=>by rw [hi.x.ids t m ht j (by omega)] at e;cases e)]
  exact e
 have sg: ∀j b,G'.sg j=some b->(j=m/\b=(x,z))\/(j≠m/\G.sg j=some b):=fun j b e=>by
  rw [hG] at e
  have e:(if j=m then some (x,z) else G.sg j)=some b:=e
  split at e
  ·cases e;exact .inl ⟨by assumption,rfl⟩
  ·exact .inr ⟨by assumption,e⟩
 have hp:G'.pub=G.pub:=by rw [hG]
 have hb:G'.blk=G.blk:=by rw [hG]
 have hrv:G'.rv=G.rv:=by rw [hG]
 have hrb:G'.rb=G.rb:=by rw [hG]
 have mv: ∀ {v d},Rv w G h v d->Rv w G' h' v d:=fun r=>rv_seal ht hp hb hrv sgm hh r
 have same: ∀ {i o},h i=o->(∀m,o≠ .ids m)->h' i=o:=fun {i o} e q=>by
  rw [hh,if_neg (fun q2=>by subst q2;rw [ht] at e;exact q m e.symm)]
  exact e
 have back: ∀ {i o},h' i=o->(∀m,o≠ .ids m)->h i=o:=fun {i o} e q=>by
  rw [hh] at e
  split at e
  ·exact absurd e.symm (q _)
  ·exact e
 have has: ∀i,(h' i).has=(h i).has:=fun i=>by
  rw [hh]
  split
  ·rename_i q;subst q;rw [ht];rfl
  ·rfl
 have ids: ∀i k,h' i= .ids k->i=t/\k=m+1:=fun i k e=>by
  rw [hh] at e
  split at e
  ·cases e;exact ⟨by assumption,rfl⟩
  ·exact absurd (hi.x.idu i t _ _ e ht) (by assumption)
 refine ⟨⟨fun i e=>by rw [hb];exact hi.lt i (by rw [<-has];exact e),fun i j e1 e2=>by rw [hb];exact hi.inj i j (by rw [<-has];exact e1) (by rw [<-has];exact e2),by rw [hp];exact hi.publt,fun i ds e=>?_,fun i n k e hn=>?_,fun i b k ds e=>?_,fun i l e=>?_,
  ⟨fun j b e=>?_,fun j k b c e1 e2 e3=>?_,fun i k e j hj=>?_,fun i j a b e1 e2=>(ids i a e1).1.trans (ids j b e2).1.symm,fun i R e=>?_⟩⟩,fun w0 G0 h0 e hnew=>?_⟩
 ·obtain ⟨a1,cs,T,a2,a3,a4⟩:=hi.box i ds (back e (by simp))
  rw [hb,hp]
  exact ⟨a1,cs,T,a2,a3,fun q c d hc hd=>⟨mv (a4 q c d hc hd).1,(a4 q c d hc hd).2⟩⟩
 ·rw [hb,hp];exact hi.front i n k (back e (by simp)) hn
 ·obtain ⟨a0,a⟩:=hi.vec i b k ds (back e (by simp))
  rw [hb,hp]
  refine ⟨a0,fun hbb=>?_⟩
  obtain ⟨a1,cs,T,a2,a3,a4⟩:=a hbb
  exact ⟨a1,cs,T,a2,a3,fun q c d hc hd=>⟨mv (a4 q c d hc hd).1,(a4 q c d hc hd).2⟩⟩
 ·obtain ⟨a1,es,ck,a2,a3,a4⟩:=hi.smap i l (back e (by simp))
  rw [hb,hp]
  exact ⟨a1,es,ck,a2,a3,fun j e p a b=>⟨(a4 j e p a b).1,RvE.mono (fun b o p=>⟨by rw [hp];exact p,rfl⟩) sgm (a4 j e p a b).2⟩⟩
 ·rcases sg j b e with ⟨_,rfl⟩ | ⟨_,e⟩
  ·exact ⟨hx,fun i hi'=>by rw [hb];exact n1 i (by rw [<-has];exact hi'),hz⟩
  ·obtain ⟨a,b',c⟩:=hi.x.sgs j b e
   exact ⟨a,fun i hi'=>by rw [hb];exact b' i (by rw [<-has];exact hi'),c⟩
 ·rcases sg j b e1 with ⟨a1,rfl⟩ | ⟨a1,a2⟩ <;>rcases sg k c e2 with ⟨c1,rfl⟩ | ⟨c1,c2⟩
  ·omega
  ·exact absurd e3.symm (n3 k c c2)
  ·exact absurd e3 (n3 j b a2)
  ·exact hi.x.sgi j k b c a2 c2 e3
 ·obtain ⟨_,rfl⟩:=ids i k e
  cases hq:G'.sg j with
  | none=>rfl
  | some c=>
   rcases sg j c hq with ⟨q,_⟩ | ⟨_,q⟩
   ·omega
   ·rw [hi.x.ids t m ht j (by omega)] at q;cases q
 ·obtain ⟨a,c⟩:=hi.x.res i R (back e (by simp))
  rw [hrv,hrb]
  refine ⟨a,fun b hbm=>?_⟩
  obtain ⟨c1,c2,c3,c4,c5⟩:=c b hbm
  refine ⟨c1,by rw [hp];exact c2,fun j c' ej=>?_,fun j hj=>by rw [hb];exact c4 j (by rw [<-has];exact hj),fun j R' ej=>c5 j R' (back ej (by simp))⟩
  rcases sg j c' ej with ⟨_,rfl⟩ | ⟨_,ej⟩
  ·exact fun q=>n2 i R (back e (by simp)) (by rw [show x=b from q];exact hbm)
  ·exact c3 j c' ej
 ·exact {
   os:=e.os
   tape:=e.tape
   output:=e.output
   size:=e.size
   pub:=fun b o p=>by rw [hp];exact e.pub b o p
   box:=fun i ds q=>by
    obtain ⟨⟨ds',a,b⟩,c⟩:=e.box i ds q
    exact ⟨⟨ds',same a (by simp),b⟩,by rw [hb];exact c⟩
   tok:=fun i n k q=>by
    obtain ⟨n',a,b,c⟩:=e.tok i n k q
    exact ⟨n',same a (by simp),b,by rw [hb];exact c⟩
   others:=e.others
   new:=fun i q=>by rw [hb];exact e.new i (by rw [<-has];exact q)
   pubnew:=fun b o p=>e.pubnew b o (by rw [<-hp];exact p)
   vec:=fun i b k ds q=>by
    rcases e.vec i b k ds q with a | ⟨ds',a,l,c⟩
    ·exact .inl (same a (by simp))
    ·exact .inr ⟨ds',same a (by simp),l,by rw [hb];exact c⟩
   gone:=fun i q=>same (e.gone i q) (by simp)
   smap:=fun i l q=>by
    obtain ⟨⟨l',a⟩,c⟩:=e.smap i l q
    exact ⟨⟨l',same a (by simp)⟩,by rw [hb];exact c⟩
   sgm:=fun j b q=>sgm j b (e.sgm j b q)
   idm:=fun i k q=>by
    obtain ⟨k',a⟩:=e.idm i k q
    have:i=t:=hi.x.idu i t _ _ a ht
    exact ⟨m+1,by rw [hh,if_pos this]⟩
   rvm:=fun i R q=>by
    obtain ⟨⟨R',a⟩,c⟩:=e.rvm i R q
    exact ⟨⟨R',same a (by simp)⟩,by rw [hrv];exact c⟩
   rbnew:=fun i R q b hbb=>e.rbnew i R (back q (by simp)) b (by rw [<-hrb];exact hbb)
   idn:=fun i k q=>e.idn t m ht
   sgn:=fun q=>by
    obtain ⟨i',m',a⟩:=e.idn t m ht
    exact absurd a (q i' m')
   sgw:=fun j b q=>by
    rcases sg j b q with ⟨_,rfl⟩ | ⟨_,q⟩
    ·exact .inr hnew
    ·exact e.sgw j b q}
theorem s_lit {t e:TypeId} {n k:Nat} {z:List Value} {ps:Array (Nat×Operand)} {xs:List (Nat×X)} (hu:P.underlying t=some (.slice e)) (hz:zerosOf P e=some z) (hok:z.all okZ=true) (hps:parts? ps.toList=some xs)
  (hke:P.cellsOf e=k) (hk0:k≠0) (hzl:z.length=k) (hbig:n * k<=2^24)
  (hk:opE P ev hpR f dr gd g (.lit k (z.map zeroE) n xs) K):Sound P ⟨dst,.buildSlice t n ps,ty,pos,after,gu⟩ ev hpR f gd g K:=by
 have hkz:P.cellsOf e≠0:=by rw [hke];exact hk0
 simp only [opE] at hk
 obtain ⟨hgd,hk⟩:=hk
 have hnb: ¬n * k>2^24:=by omega
 split at hk
 ·rename_i hn
  subst hn
  obtain ⟨hk,hemp⟩:=hk
  refine Sound.al0 hgd hk fun _ hg w G h r hi hr=>?_
  have hps0:ps= #[]:=by
   have:=(parts_get hps).1
   rw [hemp] at this
   exact Array.eq_empty_of_size_eq_zero (by simpa using this.symm)
  obtain ⟨i1,x1⟩:=alloc_pub (T:=e) (cs:= #[]) (fr:=(0,0)) hi
  refine ⟨.slice (some ⟨w.heap.size,0,none⟩) 0 0,_,_,exec_v (w':=w.alloc (.cells #[] e)) ?_,i1,x1,.zs (by rintro x ⟨⟩;rfl)⟩
  simp [Instr.buildSlice,run_underlying hu,Result.andThen,run_size hkz,hps0,Instr.fill,newRow]
  congr 2
  apply Array.ext'
  simp
 rename_i hn
 obtain ⟨o1,ds,hk1,hl1,h1⟩:=evGs_spec hk
 split at hk1
 case h_2=>exact hk1.elim
 rename_i es hes0
 have hes:=litEs_map hes0
 have core: ∀ {w:World} {G:Gh} {h:Hp} {r:Act},o1->allLen k es->allIx n xs->g=true->Rel ev w G h r-> ∃cs',RvA w G h cs' ((fillE (List.replicate n (z.map zeroE)) ((xs.map (·.1)).zip es)).flatten.map .e)/\cs'.size=n * k/\
   (fillE (List.replicate n (z.map zeroE)) ((xs.map (·.1)).zip es)).length=n/\(∀e∈fillE (List.replicate n (z.map zeroE)) ((xs.map (·.1)).zip es),e.length=k)/\
   (Instr.buildSlice t n (ps.map fun (i,x)=>(i,r.eval x))).run P w= .ok (.slice (some ⟨w.heap.size,0,none⟩) n n) (w.alloc (.cells cs' e)):=by
   intro w G h r p1 p2' p3' hg hr
   have p2:=allLen_iff.1 p2'
   have p3:=allIx_iff.1 p3'
   obtain ⟨v,e1,e2⟩:=run_zero (w:=w) hz
   have e3:v.cells.toList=z:=e2
   have e4:v.cells.size=k:=by rw [<-hzl,<-e3];simp
   have hz':v.cells.toList.all okZ=true:=by rw [e3];exact hok
   obtain ⟨hxl,hxg⟩:=parts_get hps
   have hesl:es.length=ds.length:=by have:=congrArg List.length hes;simpa using this.symm
   have row0:RvA w G h ((Array.range (n * k)).map (v.cells[· % v.cells.size]!)) ((List.replicate n (z.map zeroE)).flatten.map .e):=by
    refine RvA.list ?_ ?_
    ·rw [flatten_len (k:=k) (fun e he=>by rw [List.eq_of_mem_replicate he];simp [hzl])];simp
    ·rw [<-e3];exact zero_row hz' e4 (by omega)
   obtain ⟨cs',c1,c2⟩:=fill_rel (fun i=>some (i * k,k)) (ps.map fun (i,x)=>(i,r.eval x)).toList (((xs.map (·.1)).zip es).map fun p=>(p.1 * k,k,p.2.map .e)) _ _ row0 (by simp at hl1 hxl ⊢;omega) (fun j p q hp hq=>by
    simp only [Array.toList_map,List.getElem?_map,Option.map_eq_some_iff] at hp hq
    obtain ⟨⟨i,y⟩,hy,rfl⟩:=hp
    obtain ⟨⟨i',el⟩,hq,rfl⟩:=hq
    obtain ⟨hq1,hq2⟩:=List.getElem?_zip_eq_some.1 hq
    obtain ⟨x,hx1,hx2⟩:=hxg j (i,y) hy
    have:i'=i:=by simp [hx1] at hq1;exact hq1.symm
    subst this
    have hdj:j<ds.length:=by rw [<-hesl];exact (List.getElem?_eq_some_iff.1 hq2).1
    have hto:toEs (ds[j]).cells=some el:=by
     have:=congrArg (·[j]?) hes
     simp [hdj,hq2] at this
     exact this
    have hv:=h1 (w:=w) (G:=G) (h:=h) hg p1 j (r.eval y) ds[j] (fun d' e=>hr y x d' hx2 (by simpa [hx1] using e)) (List.getElem?_eq_getElem hdj)
    obtain ⟨t1,t2⟩:=toEs_rel (w:=w) (G:=G) (h:=h) hto
    have hst:(ds[j]).stor=true:=by
     cases hdd:ds[j] <;>first | rfl | (rw [hdd] at hto;simp [toEs,D.cells,D.toE] at hto)
    have hc:=hv.cells hst
    have hel:el.length=k:=p2 el (List.mem_of_getElem? hq2)
    refine ⟨rfl,RvA.list (by rw [hc.size,<-t1]) (fun m c d hc' hd'=>?_),by simp [hel],?_⟩
    ·have hm:m<(ds[j]).cells.length:=by rw [<-t1];exact (List.getElem?_eq_some_iff.1 hd').1
     exact t2 m c d _ (List.getElem?_eq_getElem hm) hd' (hc.rel m c _ hc' (List.getElem?_eq_getElem hm))
    ·have hi:i'<n:=p3 (i',x) (List.mem_of_getElem? hx1)
     rw [List.length_map,flatten_len (k:=k) (fun e he=>by rw [List.eq_of_mem_replicate he];simp [hzl]),List.length_replicate,<-Nat.succ_mul]
     exact Nat.mul_le_mul_right k hi)
   have hrepk: ∀e∈List.replicate n (z.map zeroE),e.length=k:=fun e he=>by rw [List.eq_of_mem_replicate he];simp [hzl]
   have hpsk: ∀p∈(xs.map (·.1)).zip es,p.2.length=k/\p.1<(List.replicate n (z.map zeroE)).length:=fun p hp=>by
    refine ⟨p2 _ (List.of_mem_zip hp).2,?_⟩
    obtain ⟨x,hx,hx'⟩:=List.mem_map.1 (List.of_mem_zip hp).1
    rw [List.length_replicate,<-hx']
    exact p3 x hx
   have c3:=c2.congr (fill_flat (by omega) _ _ hrepk hpsk)
   obtain ⟨f1,f2⟩:=fillE_props ((xs.map (·.1)).zip es) (List.replicate n (z.map zeroE)) hrepk (fun p hp=>(hpsk p hp).1)
   rw [List.length_replicate] at f1
   have hsz:cs'.size=n * k:=by rw [c3.size,List.length_map,flatten_len f2,f1]
   refine ⟨cs',c3,hsz,f1,f2,?_⟩
   have hz0: ¬n * k=0:=by rw [Nat.mul_eq_zero];omega
   simp only [Instr.buildSlice,Sem.run_bind,run_underlying hu,Result.andThen,run_size hkz,hke,if_neg hnb,if_neg hz0,e1,Sem.run_pure,c1]
   simp [newRow,Result.andThen]
 generalize fillE (List.replicate n (z.map zeroE)) ((xs.map (·.1)).zip es)=L at hk1 core
 have hm:n<=maxN:=by
  have:n * 1<=n * k:=Nat.mul_le_mul_left n (by omega)
  simp only [maxN];omega
 rcases hk1 with (hk2 | ⟨tt,m,htt,hk2⟩) | hk2
 rotate_left
 ·refine ⟨_,_,hk2,fun hg=>(by rw [hgd] at hg;cases hg),by simp,fun ⟨p1,p2',p3'⟩ hg=>?_⟩
  intro w G h a K' Q hi htc hd hr hK
  obtain ⟨cs',c3,hsz,f1,f2,hrun⟩:=core p1 p2' p3' hg hr
  have htm:h tt= .ids m:=by rw [htc tt (by simp),htt]
  obtain ⟨i1,x1⟩:=alloc_pub (T:=e) (cs:=cs') (fr:=(0,0)) hi
  have hnew:(w.alloc (.cells cs' e)).heap[w.heap.size]?=some (.cells cs' e (0,0)):=by show (w.heap.push _)[w.heap.size]?=_;simp
  have hlt:w.heap.size<(w.alloc (.cells cs' e)).heap.size:=by show _<(w.heap.push _).size;simp
  have hcell: ∀j,j<n * k->(w.alloc (.cells cs' e)).cell? ⟨w.heap.size,j,none⟩=some (cs'.getD j undef):=fun j hj=>by
   unfold World.cell?
   simp only
   rw [hnew]
   simp [show j<cs'.size by omega]
  obtain ⟨G1,hG1⟩: ∃G1:Gh,G1=⟨fun x o=>G.pub x o\/x=w.heap.size,G.blk,G.sg,G.rv,G.rb⟩:=⟨_,rfl⟩
  rw [<-hG1] at i1 x1
  obtain ⟨G2,hG2⟩: ∃G2:Gh,G2=⟨G1.pub,G1.blk,fun j=>if j=m then some (w.heap.size,n * k) else G1.sg j,G1.rv,G1.rb⟩:=⟨_,rfl⟩
  have g1:G1.blk=G.blk:=by rw [hG1]
  have g2:G1.rb=G.rb:=by rw [hG1]
  have g3:G1.sg=G.sg:=by rw [hG1]
  have g4: ∀o,G1.pub w.heap.size o:=fun o=>by rw [hG1];exact .inr rfl
  have g5: ∀j b,G1.sg j=some b->G2.sg j=some b:=fun j b eq=>by
   rw [hG2]
   show (if j=m then _ else _)=_
   rw [if_neg (fun q2=>by have:=hi.x.ids tt m htm j (by omega);rw [g3,this] at eq;cases eq)]
   exact eq
  have g6:G2.sg m=some (w.heap.size,n * k):=by rw [hG2];exact if_pos rfl
  have g7:G2.pub=G1.pub:=by rw [hG2]
  obtain ⟨i2,x2⟩:=seal_any (z:=n * k) (G':=G2) (h':=happ h f {d:=some (.e (.fs m L)),wr:= [(tt,.ids (m+1))],tc:= [tt]}) i1 htm hlt ⟨cs',e,hnew,by omega⟩ (fun i hh q=>by have:=hi.lt i hh;rw [g1] at q;omega) (fun i R q hb=>by rw [g2] at hb;have:=((hi.x.res i R q).2 _ hb).1;omega) (fun j c q e2=>by rw [g3] at q;have:=(hi.x.sgs j c q).1;omega) hG2 (fun i=>by rw [happ_wr])
  refine wp_of_run (exec_v (w':=w.alloc (.cells cs' e)) hrun) (hK _ _ _ (fun d' e'=>?_) i2 (x2 _ _ _ x1 (.inl (Nat.le_refl _))))
  cases e'
  refine .e (.fs (k:=k) (z:=n * k) (fun j=>cs'.getD j undef) g6 (Nat.le_refl _) f1 (Nat.le_refl _) hm f2 (fun j hj=>⟨by rw [g7];exact g4 _,by rw [Nat.zero_add];exact hcell j hj⟩) fun j d hd=>?_)
  have hj:j<n * k:=by rw [<-f1,<-flatten_len f2];exact (List.getElem?_eq_some_iff.1 hd).1
  have:=(rva_e c3 j cs'[j] d (by simp [show j<cs'.size by omega]) hd).mono (G':=G1) x1.pub x1.sgm
  have hg:cs'.getD j undef=cs'[j]:=by simp [Array.getD,show j<cs'.size by omega]
  rw [hg]
  exact this.mono (G':=G2) (fun b o p=>⟨by rw [g7];exact p,rfl⟩) g5
 rotate_left
 ·refine Sound.al hgd hk2 fun ⟨p1,p2',p3'⟩ hg w G h r hi hd hr=>?_
  obtain ⟨cs',c3,hsz,f1,f2,hrun⟩:=core p1 p2' p3' hg hr
  obtain ⟨i1,x1⟩:=alloc_step (T:=e) (cs:=cs') (pn:=fun o=>o<n * k) (h':=fun i=>if i=f then .front n k else h i) hi (.inl hd) (fun i e=>by simp [e])
   (fun ds e=>by simp at e) (fun n' k' e=>by simp at e;obtain ⟨rfl,rfl⟩:=e;intro _ o ho;omega)
  have hnew:(w.alloc (.cells cs' e)).heap[w.heap.size]?=some (.cells cs' e (0,0)):=by show (w.heap.push _)[w.heap.size]?=_;simp
  refine ⟨.slice (some ⟨w.heap.size,0,none⟩) n n,_,_,exec_v (w':=w.alloc (.cells cs' e)) hrun,i1,x1,?_⟩
  refine .own (k:=k) (new_list hnew (fun j hj=> .inr ⟨rfl,hj⟩) f1 f2 (Nat.le_refl _) hm (by omega) (fun j c d hc hd=>(rva_e c3 j c d hc hd).mono x1.pub x1.sgm)) f2 ?_
  refine ⟨n,if_pos rfl,by omega,fun _=> .inr ⟨by omega,n,cs',e,(0,0),?_,?_,by omega⟩⟩
  ·simp [Gh.new,f1]
  ·simpa [Gh.new] using hnew
 ·refine Sound.al hgd hk2 fun ⟨p1,p2',p3'⟩ hg w G h r hi hd hr=>?_
  obtain ⟨cs',c3,hsz,f1,f2,hrun⟩:=core p1 p2' p3' hg hr
  have hfl:(L.flatten.map D.e).length=n * k:=by rw [List.length_map,flatten_len f2,f1]
  obtain ⟨i1,x1⟩:=alloc_step (T:=e) (cs:=cs') (pn:=fun _=>False) (h':=fun i=>if i=f then .vec true k (L.flatten.map .e) else h i) hi (.inl hd) (fun i e=>by simp [e])
   (fun ds e=>by simp at e) (fun n' k' e=>by simp at e) (fun b k' ds e=>by cases (if_pos rfl).symm.trans e;exact ⟨rfl,fun _ p=>p,by rw [hsz,hfl];exact Nat.le_refl _,fun j c d hc hd=>⟨c3.rel j c d hc hd,c3.one j c hc⟩⟩)
  have hnew:(w.alloc (.cells cs' e)).heap[w.heap.size]?=some (.cells cs' e (0,0)):=by show (w.heap.push _)[w.heap.size]?=_;simp
  refine ⟨.slice (some ⟨w.heap.size,0,none⟩) n n,_,_,exec_v (w':=w.alloc (.cells cs' e)) hrun,i1,x1,?_⟩
  refine .vec (by simp) hm (Nat.le_refl _) fun b k' ds' e'=>?_
  cases (if_pos rfl).symm.trans e'
  refine ⟨rfl,by rw [hfl];exact Nat.le_refl _,fun hb=>(by cases hb),fun _=>⟨by simp [Gh.new],cs',e,(0,0),by simpa [Gh.new] using hnew,by omega⟩⟩
theorem wrap_small {m:Nat} (h:m<=2147483648):IntKind.i64.wrap (m:Int)=m:=(wrap_in (k:= .i64) ⟨by omega,by omega⟩).1
theorem s_mks {t e:TypeId} {z:List Value} {yl yc:Operand} {x:X} {inf:TypeInfo} (hu:P.underlying t=some (.slice e)) (hinf:P.info? e=some inf) (hby:inf.bytes<=65536) (hz:zerosOf P e=some z) (hok:z.all okZ=true)
  (hk0:P.cellsOf e≠0) (hzl:z.length=P.cellsOf e) (hx:cvX yl=some x) (hs:sameTmp yl yc=true)
  (hk:opE P ev hpR f dr gd g (.mks (z.map fun v=> .e (zeroE v)) x) K):Sound P ⟨dst,.makeSlice t yl yc,ty,pos,after,gu⟩ ev hpR f gd g K:=by
 simp only [opE] at hk
 obtain ⟨hgd,hk⟩:=hk
 obtain ⟨o1,d1,hk1,h1⟩:=evG_spec hk
 split at hk1
 case h_2=>exact hk1.elim
 rename_i n
 rcases hk1 with hk1 | hk1
 ·refine Sound.al hgd hk1 fun ⟨p1,p2,p3⟩ hg w G h r hi hd hr=>?_
  obtain ⟨e1,e2,e3⟩:=rv_int (h1 (fun d' e=>hr yl x d' hx e) hg p1)
  have e4:r.eval yc=r.eval yl:=by
   cases yl <;>cases yc <;>simp [sameTmp] at hs
   ·subst hs;rfl
   ·rename_i a b
    cases a <;>cases b <;>simp at hs
    obtain ⟨rfl,rfl⟩:=hs;rfl
  obtain ⟨v,z1,z2⟩:=run_zero (w:=w) hz
  have z3:v.cells.toList=z:=z2
  have z4:v.cells.size=P.cellsOf e:=by rw [<-hzl,<-z3];simp
  have z5:v.cells.toList.all okZ=true:=by rw [z3];exact hok
  obtain ⟨m,rfl⟩:=Int.eq_ofNat_of_zero_le p2
  have hm:m<=2147483648:=by omega
  simp only [Int.toNat_natCast] at *
  have hrepk: ∀e'∈List.replicate m (z.map zeroE),e'.length=P.cellsOf e:=fun e he=>by rw [List.eq_of_mem_replicate he];simp [hzl]
  generalize hcs:(Array.range (m * P.cellsOf e)).map ((if m * P.cellsOf e=0 then #[] else v.cells)[· % (if m * P.cellsOf e=0 then #[] else v.cells).size]!)=cs
  have row0:RvA w G h cs ((List.replicate m (z.map zeroE)).flatten.map .e):=by
   refine RvA.list (by rw [flatten_len hrepk,<-hcs];simp) ?_
   by_cases hz0:m * P.cellsOf e=0
   ·intro j c d hc
    rw [<-hcs,hz0] at hc;simp at hc
   ·rw [<-hcs,if_neg hz0,<-z3]
    exact zero_row z5 z4 (by omega)
  have hds:(List.replicate m (z.map zeroE)).flatten.map D.e=(List.replicate m (z.map fun v=>D.e (zeroE v))).flatten:=by
   simp [List.map_flatten];rfl
  obtain ⟨i1,x1⟩:=alloc_step (T:=e) (cs:=cs) (pn:=fun _=>False) (h':=fun i=>if i=f then .box (List.replicate m (z.map fun v=>D.e (zeroE v))).flatten else h i) hi (.inl hd) (fun i e=>by simp [e])
   (fun ds e=>by simp at e;subst e;exact ⟨fun _ p=>p,by have:=row0.congr hds;simpa using this⟩) (fun n k e=>by simp at e)
  refine ⟨.slice (some ⟨w.heap.size,0,none⟩) m m,_,_,exec_v (w':=w.alloc (.cells cs e)) ?_,i1,x1,?_⟩
  ·have b1: ¬(m:Int)<0:=by omega
   have b3:IntKind.i64.wrap (m:Int)=m:=wrap_small hm
   have b2: ¬(inf.bytes:Int) * m>2^48:=by
    have h3:inf.bytes * m<=140737488355328:=Nat.le_trans (Nat.mul_le_mul hby hm) (by decide)
    have:((inf.bytes * m:Nat):Int)<=((140737488355328:Nat):Int):=Int.ofNat_le.2 h3
    have p48:(2:Int)^48=281474976710656:=by decide
    rw [p48,<-Int.natCast_mul]
    omega
   rw [<-hcs]
   simp only [Instr.makeSlice,Sem.run_bind,run_underlying hu,Result.andThen,e1,e4,asInt,asIntOf,Sem.run_pure,run_typeInfo w hinf,b3]
   rw [if_neg (by rw [decide_eq_false b1,decide_eq_false b2,decide_eq_false (Int.lt_irrefl _)];decide)]
   by_cases hz0:m * P.cellsOf e=0
   ·simp only [hz0,if_true]
    simp [run_askRoom,Result.andThen,run_size hk0,hz0,newRow]
   ·rw [if_neg hz0]
    simp [run_askRoom,Result.andThen,run_size hk0,hz0,newRow,z1]
  ·have hb:(fun i=>if i=f then O.box (List.replicate m (z.map fun v=>D.e (zeroE v))).flatten else h i) f= .box (List.replicate m (z.map fun v=>D.e (zeroE v))).flatten:=if_pos rfl
   refine Rv.bs hb (Nat.le_refl _) (.inr ⟨by simp [Gh.new],rfl,?_⟩) (by simp only [maxN];omega)
   rw [<-hds,List.length_map (f:=D.e),flatten_len hrepk]
   simp [hzl]
 ·refine Sound.al hgd hk1 fun ⟨p1,p2,p3⟩ hg w G h r hi hd hr=>?_
  obtain ⟨e1,e2,e3⟩:=rv_int (h1 (fun d' e=>hr yl x d' hx e) hg p1)
  have e4:r.eval yc=r.eval yl:=by
   cases yl <;>cases yc <;>simp [sameTmp] at hs
   ·subst hs;rfl
   ·rename_i a b
    cases a <;>cases b <;>simp at hs
    obtain ⟨rfl,rfl⟩:=hs;rfl
  obtain ⟨v,z1,z2⟩:=run_zero (w:=w) hz
  have z3:v.cells.toList=z:=z2
  have z4:v.cells.size=P.cellsOf e:=by rw [<-hzl,<-z3];simp
  have z5:v.cells.toList.all okZ=true:=by rw [z3];exact hok
  obtain ⟨m,rfl⟩:=Int.eq_ofNat_of_zero_le p2
  have hm:m<=2147483648:=by omega
  simp only [Int.toNat_natCast] at *
  have hrepk: ∀e'∈List.replicate m (z.map zeroE),e'.length=P.cellsOf e:=fun e he=>by rw [List.eq_of_mem_replicate he];simp [hzl]
  generalize hcs:(Array.range (m * P.cellsOf e)).map ((if m * P.cellsOf e=0 then #[] else v.cells)[· % (if m * P.cellsOf e=0 then #[] else v.cells).size]!)=cs
  have row0:RvA w G h cs ((List.replicate m (z.map zeroE)).flatten.map .e):=by
   refine RvA.list (by rw [flatten_len hrepk,<-hcs];simp) ?_
   by_cases hz0:m * P.cellsOf e=0
   ·intro j c d hc
    rw [<-hcs,hz0] at hc;simp at hc
   ·rw [<-hcs,if_neg hz0,<-z3]
    exact zero_row z5 z4 (by omega)
  have hds:(List.replicate m (z.map zeroE)).flatten.map D.e=(List.replicate m (z.map fun v=>D.e (zeroE v))).flatten:=by
   simp [List.map_flatten];rfl
  obtain ⟨i1,x1⟩:=alloc_step (T:=e) (cs:=cs) (pn:=fun _=>False) (h':=fun i=>if i=f then .vec true (z.map fun v=>D.e (zeroE v)).length (List.replicate m (z.map fun v=>D.e (zeroE v))).flatten else h i) hi (.inl hd) (fun i e=>by simp [e])
   (fun ds e=>by simp at e) (fun n k e=>by simp at e) (fun b k' ds e=>by cases (if_pos rfl).symm.trans e;exact ⟨rfl,fun _ p=>p,by have:=row0.size;rw [this,<-hds];exact Nat.le_refl _,fun j c d hc hd=>⟨row0.rel j c d hc (by rw [hds];exact hd),row0.one j c hc⟩⟩)
  refine ⟨.slice (some ⟨w.heap.size,0,none⟩) m m,_,_,exec_v (w':=w.alloc (.cells cs e)) ?_,i1,x1,?_⟩
  ·have b1: ¬(m:Int)<0:=by omega
   have b3:IntKind.i64.wrap (m:Int)=m:=wrap_small hm
   have b2: ¬(inf.bytes:Int) * m>2^48:=by
    have h3:inf.bytes * m<=140737488355328:=Nat.le_trans (Nat.mul_le_mul hby hm) (by decide)
    have:((inf.bytes * m:Nat):Int)<=((140737488355328:Nat):Int):=Int.ofNat_le.2 h3
    have p48:(2:Int)^48=281474976710656:=by decide
    rw [p48,<-Int.natCast_mul]
    omega
   rw [<-hcs]
   simp only [Instr.makeSlice,Sem.run_bind,run_underlying hu,Result.andThen,e1,e4,asInt,asIntOf,Sem.run_pure,run_typeInfo w hinf,b3]
   rw [if_neg (by rw [decide_eq_false b1,decide_eq_false b2,decide_eq_false (Int.lt_irrefl _)];decide)]
   by_cases hz0:m * P.cellsOf e=0
   ·simp only [hz0,if_true]
    simp [run_askRoom,Result.andThen,run_size hk0,hz0,newRow]
   ·rw [if_neg hz0]
    simp [run_askRoom,Result.andThen,run_size hk0,hz0,newRow,z1]
  ·have hnew:(w.alloc (.cells cs e)).heap[w.heap.size]?=some (.cells cs e (0,0)):=by show (w.heap.push _)[w.heap.size]?=_;simp
   have hsz:=row0.size
   have hfl:(List.replicate m (z.map fun v=>D.e (zeroE v))).flatten.length=m * P.cellsOf e:=by rw [<-hds,List.length_map (f:=D.e),flatten_len hrepk,List.length_replicate]
   have hzk:(z.map fun v=>D.e (zeroE v)).length=P.cellsOf e:=by simp [hzl]
   refine .vec (by simp) (by simp only [maxN];omega) (Nat.le_refl _) fun b k' ds' e'=>?_
   cases (if_pos rfl).symm.trans e'
   rw [hzk]
   refine ⟨rfl,by rw [hfl];exact Nat.le_refl _,fun hb=>(by cases hb),fun _=>⟨by simp [Gh.new],cs,e,(0,0),by simpa [Gh.new] using hnew,by rw [hsz,hds,hfl];exact Nat.le_refl _⟩⟩
theorem freeze_alloc (w:World) (cs:Array Value) (T:TypeId) (n m:Nat) (hm:m≠0):(w.alloc (.cells cs T)).freeze ⟨w.heap.size,n,none⟩ m=w.alloc (.cells cs T (n,n+m)):=by
 unfold World.freeze
 rw [if_neg hm]
 unfold World.alloc
 congr 1
 apply Array.ext
 ·simp
 ·intro i h1 h2
  simp only [Array.getElem_modify,Array.getElem_push]
  by_cases e:i<w.heap.size
  ·rw [dif_pos e,if_neg (by omega),dif_pos e]
  ·have:w.heap.size=i:=by simp at h2;omega
   rw [dif_neg e,if_pos this,dif_neg e]
   simp
theorem u8_row {w:World} {G:Gh} (l:List UInt8) (r:Array Value): ∀(j:Nat) c d,((l.map fun b=>Value.int .u8 b.toNat).toArray++r)[j]?=some c->
  (l.map fun b=> [E.v (.int .u8 b.toNat)]).flatten[j]?=some d->RvE w G c d:=by
 intro j c d hc hd
 have hk: ∀e∈l.map fun b=> [E.v (.int .u8 b.toNat)],e.length=1:=fun e he=>by
  obtain ⟨b,_,rfl⟩:=List.mem_map.1 he;rfl
 have hj:j<l.length:=by
  have:=(List.getElem?_eq_some_iff.1 hd).1
  rw [flatten_len hk] at this;simpa using this
 have h2:=flatten_get hk j [E.v (.int .u8 (l[j]).toNat)] 0 (by simp [hj]) (by omega)
 simp only [Nat.mul_one,Nat.add_zero] at h2
 rw [h2] at hd
 simp at hd;subst hd
 rw [Array.getElem?_append_left (by simpa using hj)] at hc
 simp [hj] at hc;subst hc
 refine .v ?_
 have:=(l[j]).toNat_lt
 simp only [okV,IntKind.min,IntKind.max,IntKind.signed,IntKind.bits]
 simp
 omega
theorem s_convsb {s d e:TypeId} {yx:Operand} {x:X} (hx:cvX yx=some x) (hs:P.underlying s=some .string) (hd:P.underlying d=some (.slice e)) (he:P.underlying e=some (.int .u8))
  (hk:opE P ev hpR f dr gd g (.convsb x) K):Sound P ⟨dst,.convert s d yx,ty,pos,after,gu⟩ ev hpR f gd g K:=by
 simp only [opE] at hk
 obtain ⟨hgd,hk⟩:=hk
 obtain ⟨o1,d1,hk1,h1⟩:=evG_spec hk
 split at hk1
 case h_2=>exact hk1.elim
 rename_i st
 refine Sound.al0 hgd hk1 fun p1 hg w G h r hi hr=>?_
 obtain ⟨e1,e2⟩:=rv_v (h1 (fun d' e=>hr yx x d' hx e) hg p1)
 have hl:=str_bound e2
 obtain ⟨i0,x0⟩:=drew_step hi
 generalize hcap:(Question.appendCap st.size 0 e).cut (w.tape w.drawn (.appendCap st.size 0 e))=cap
 have hcap':st.size<=cap:=by rw [<-hcap];simp only [Question.cut];omega
 generalize hcs:(st.data.toList.map fun b=>Value.int .u8 b.toNat).toArray++Array.replicate (cap-st.size) (.int .u8 0)=cs
 have hsz:cs.size=cap:=by rw [<-hcs];simp;have:st.data.size=st.size:=rfl;omega
 obtain ⟨i1,x1⟩:=alloc_pub (T:=e) (cs:=cs) (fr:=(cap,cap+1)) i0
 have hk': ∀e∈st.data.toList.map fun b=> [E.v (.int .u8 b.toNat)],e.length=1:=fun e he=>by
  obtain ⟨b,_,rfl⟩:=List.mem_map.1 he;rfl
 have hln:(st.data.toList.map fun b=> [E.v (.int .u8 b.toNat)]).length=st.size:=by simp
 refine ⟨.slice (some ⟨w.heap.size,0,none⟩) st.size cap,w.drew.alloc (.cells cs e (cap,cap+1)),_,exec_v ?_,i1,x0.trans x1,.e ?_⟩
 ·have hsh:(w.drew.alloc (.cells cs e)).shape? w.heap.size=some (e,cap):=by
   rw [shape_size (cs:=cs) (T:=e) (fr:=(0,0)) (by show (w.heap.push _)[w.heap.size]?=_;simp),hsz]
  have hcs':(st.data.map fun b=>Value.int .u8 b.toNat)++Array.replicate (cap-st.size) (.int .u8 0)=cs:=by
   rw [<-hcs];congr 1;apply Array.ext';simp
  simp [convert,run_underlying hs,run_underlying hd,run_underlying he,Result.andThen,e1,Conv.stringToBytes,Question.forced,hcap,newRow,hcs',markStringish]
  have hw:({heap:=w.drew.heap.push (.cells cs e),tape:=w.tape,drawn:=w.drawn+1,os:=w.drew.os,output:=w.drew.output} :World)=w.drew.alloc (.cells cs e):=rfl
  rw [hw]
  rw [hsh]
  simp only [run_freeze]
  rw [show (w.drew.alloc (Obj.cells cs e)).freeze ⟨w.heap.size,cap,none⟩ 1=_ from freeze_alloc w.drew cs e cap 1 (by decide)]
 ·exact new_list (cs:=cs) (T:=e) (fr:=(cap,cap+1)) (by show (w.heap.push _)[w.heap.size]?=_;simp) (fun j _=> .inr rfl) hln hk' hcap' (by rw [<-hln];simpa using hl) (by omega) (fun j c d hc hd=>by rw [<-hcs] at hc;exact u8_row _ _ j c d hc hd)
end
end Go.Proofs.YtfplalbognalkaaGreat.Ab
/- Each step of the small language is what the machine does: append. -/
namespace Go.Proofs.YtfplalbognalkaaGreat.Ab
open Go
section
variable {P:Program} {o:Oper} {ev:X->Option D} {hpR:Hp} {f:Nat} {dr gd g:Bool} {K:Prop->Eff->Prop}
variable {dst:Option Nat} {ty:TypeId} {pos:String} {after:Array Edge} {gu:Option (Nat×Bool)}
structure Src (P:Program) (w:World) (t:TypeId) (size m:Nat) (x:Value) (news:Array Value):Prop where
 known: ∃d,P.underlying t=some d/\(match d with | .int _=>true | _=>false)=false
 len:(Builtin.lenOf x).run P w= .ok m w
 cells:(Builtin.firstCells size m x).run P w= .ok news w
 cells':(Builtin.firstCells size m x).run P w.drew= .ok news w.drew
 size:news.size=m * size
section
variable {w:World} {t u e:TypeId} {i:TypeInfo} {z:Value} {k n m cap:Nat} {x:Value} {news olds:Array Value}
theorem run_app_room (ht:P.underlying t=some (.slice e)) (hi:P.info? e=some i) (hk:i.size=k) (hs:Src P w u k m x news) {a:Option Addr} (hr:n+m<=cap) {w':World}
  (hst:match a with | some a=>(storeCells (a.add (n * k)) news.toList).run P w= .ok () w' | none=>w'=w):
  (Builtin.append_ #[t,u] ty #[.slice a n cap,x]).run P w= .ok (.slice a (n+m) cap) w':=by
 obtain ⟨d,hd,hz⟩:=hs.known
 have hc:=hs.cells
 have hl:=hs.len
 subst hk
 cases a with
 | none=>
  simp only at hst;subst hst
  simp [Builtin.append_,run_underlying ht,run_underlying hd,sizeOf,typeInfo,hi,hl,hr,hc,hz,Result.andThen]
  cases d <;>simp_all [hl,hr,hc,Result.andThen]
 | some a=>
  simp only at hst
  simp [Builtin.append_,run_underlying ht,run_underlying hd,sizeOf,typeInfo,hi,hl,hr,hc,hz,Result.andThen,hst]
  cases d <;>simp_all [hl,hr,hc,Result.andThen]
theorem run_app_grow (ht:P.underlying t=some (.slice e)) (hi:P.info? e=some i) (hk:i.size=k) (hzr:i.zero=some z) (hs:Src P w u k m x news) {a:Option Addr} (hr:cap<n+m)
  (ho:(Builtin.firstCells k n (.slice a n cap)).run P w.drew= .ok olds w.drew) (h63:n+m<=2147483648) (hb:i.bytes<=65536):
  (Builtin.append_ #[t,u] ty #[.slice a n cap,x]).run P w=
   .ok (.slice (some ⟨w.heap.size,0,none⟩) (n+m) (grownCap w (n+m) cap e))
    (w.drew.alloc (.cells (olds++news++Builtin.zeroCells z.cells (grownCap w (n+m) cap e-(n+m))) e)):=by
 obtain ⟨d,hd,hz⟩:=hs.known
 have hc:=hs.cells'
 have hl:=hs.len
 subst hk
 have hn: ¬(n+m<=cap):=by omega
 have h63': ¬(9223372036854775807<((n:Int)+(m:Int))):=by omega
 have h47:(n+m) * i.bytes<=140737488355328:=Nat.le_trans (Nat.mul_le_mul h63 hb) (by decide)
 have h48:=growslice_fits (old:=cap) (by omega) h47
 have h48': ¬(281474976710656<Builtin.nextslicecap (n+m) cap * i.bytes):=by omega
 have hby:i.bytes=0-> ¬(9223372036854775807<((n:Int)+(m:Int))):=fun _=>h63'
 simp [Builtin.append_,run_underlying ht,run_underlying hd,sizeOf,typeInfo,zeroValue,hi,hzr,hl,hn,h63',h48',Question.forced,hc,ho,hz,Result.andThen,newRow,grownCap]
 cases d <;>simp_all [hl,hc,Result.andThen,newRow,grownCap,Question.forced]
end
theorem src_list {w:World} {G:Gh} {h:Hp} {t e:TypeId} {x:Value} {d:D} {ys:List (List E)} {k:Nat} (hu:P.underlying t=some (.slice e)) (r:Rv w G h x d) (hl:d.list=some ys) (hk: ∀y∈ys,y.length=k):
  ∃news,Src P w t k ys.length x news/\ ∀(j:Nat) c d,news[j]?=some c->ys.flatten[j]?=some d->RvE w G c d:=by
 rcases rv_list r hl with ⟨a,rfl,rfl,_⟩ | r
 ·refine ⟨#[],⟨⟨_,hu,rfl⟩,rfl,?_,?_,by simp⟩,by simp⟩ <;>cases a <;>simp [Builtin.firstCells,loadCells,loadCellsFrom]
 ·rcases rve_sl r with ⟨a,cap,rfl,rfl,_⟩ | ⟨b,off,cap,k',u,rfl,_,_,hkk,hp,hr⟩
  ·refine ⟨#[],⟨⟨_,hu,rfl⟩,rfl,?_,?_,by simp⟩,by simp⟩ <;>cases a <;>simp [Builtin.firstCells,loadCells,loadCellsFrom]
  ·have hp': ∀j,j<ys.length * k->w.cell? ((⟨b,off,none⟩:Addr).add j)=some (u j):=fun j hj=>by
    rw [addr_add]
    rcases Nat.eq_zero_or_pos ys.length with h0 | h0
    ·rw [h0] at hj;omega
    ·obtain ⟨y,hy⟩:=List.exists_mem_of_length_pos h0
     have:k'=k:=by rw [<-hkk y hy,hk y hy]
     subst this
     exact (hp j hj).2
   refine ⟨((List.range (ys.length * k)).map u).toArray,⟨⟨_,hu,rfl⟩,rfl,run_loadCells w _ _ u hp',run_loadCells w.drew _ _ u (fun j hj=>by simpa using hp' j hj),by simp⟩,fun j c d hc hd=>?_⟩
   have hj:j<ys.length * k:=by have:=(Array.getElem?_eq_some_iff.1 hc).1;simpa using this
   simp [hj] at hc;subst hc
   exact hr j d hd
theorem src_str {w:World} {G:Gh} {t:TypeId} {s:ByteArray} (hu:P.underlying t=some .string):
  ∃news,Src P w t 1 s.data.toList.length (.string s) news/\ ∀(j:Nat) c d,news[j]?=some c->(s.data.toList.map fun b=> [E.v (.int .u8 b.toNat)]).flatten[j]?=some d->RvE w G c d:=by
 have e1:s.data.toList.length=s.size:=rfl
 have e2:(Builtin.firstCells 1 s.size (.string s))=pure (s.data.map fun b=> .int .u8 b.toNat):=by
  simp only [Builtin.firstCells]
  congr 2
  apply Array.ext'
  simp [ByteArray.data_extract]
 refine ⟨(s.data.map fun b=> .int .u8 b.toNat),⟨⟨_,hu,rfl⟩,rfl,by rw [e1,e2];rfl,by rw [e1,e2];rfl,by simp⟩,fun j c d hc hd=>?_⟩
 refine u8_row s.data.toList #[] j c d ?_ hd
 rw [<-hc];congr 1;apply Array.ext';simp
theorem inv_front0 {w:World} {G:Gh} {h:Hp} {i k:Nat} (hi:Inv w G h) (hd:h i= .dead\/h i= .front 0 k):
  Inv w G (fun j=>if j=i then .front 0 k else h j)/\Ext w G h w G (fun j=>if j=i then .front 0 k else h j):=by
 have hnb: ∀ds,h i≠ .box ds:=fun ds e=>by rcases hd with hd | hd <;>rw [hd] at e <;>cases e
 have hx:=hx_one (h:=h) (h':=fun j=>if j=i then .front 0 k else h j) (i:=i) (fun j q=>if_neg q) (by rcases hd with hd | hd <;>rw [hd] <;>rfl) (by simp [O.plain])
 have ext:Ext w G h w G (fun j=>if j=i then .front 0 k else h j):= {
  os:=rfl
  sgm:=fun _ _ e=>e
  idm:=fun j m e=>⟨m,hx.1 j m e⟩
  rvm:=fun j R e=>⟨⟨R,hx.2.1 j R e⟩,rfl⟩
  rbnew:=fun j R e b hb=> .inl ⟨j,R,hx.2.2.2 j R e,hb⟩
  idn:=fun j m e=>⟨j,m,hx.2.2.1 j m e⟩
  sgn:=fun _=>rfl
  sgw:=fun _ _ e=> .inl e
  tape:=rfl
  output:=rfl
  size:=Nat.le_refl _
  pub:=fun b o p=>⟨p,rfl⟩
  box:=fun j ds e=>by
   have ej:j≠i:=fun ej=>hnb ds (ej▸e)
   exact ⟨⟨ds,by show (if j=i then _ else _)=_;rw [if_neg ej,e],rfl⟩,rfl⟩
  tok:=fun j n k' e=>by
   by_cases ej:j=i
   ·subst ej
    rcases hd with hd | hd <;>rw [hd] at e <;>cases e
    exact ⟨0,if_pos rfl,Nat.le_refl _,fun _ h=>absurd h (Nat.lt_irrefl _)⟩
   ·exact ⟨n,by rw [if_neg ej,e],Nat.le_refl _,fun _ _=>⟨rfl,rfl⟩⟩
  others:=fun _ _ _ _=>rfl
  new:=fun j hj=>by
   by_cases ej:j=i
   ·subst ej;simp [O.has] at hj
   ·simp only [if_neg ej] at hj;exact .inl ⟨j,hj,rfl⟩
  pubnew:=fun _ _ p=> .inl p
  vec:=fun j b k' ds e=>by
   have ej:j≠i:=fun ej=>by subst ej;rcases hd with hd | hd <;>rw [hd] at e <;>cases e
   exact .inr ⟨ds,by rw [if_neg ej,e],Nat.le_refl _,fun _=>⟨rfl,rfl⟩⟩
  gone:=fun j e=>by
   have ej:j≠i:=fun ej=>by subst ej;rcases hd with hd | hd <;>rw [hd] at e <;>cases e
   rw [if_neg ej,e]
  smap:=fun j l e=>by
   have ej:j≠i:=fun ej=>by subst ej;rcases hd with hd | hd <;>rw [hd] at e <;>cases e
   exact ⟨⟨l,by rw [if_neg ej,e]⟩,rfl⟩}
 have hhas: ∀j,O.has (if j=i then .front 0 k else h j)=true->(h j).has=true:=fun j hj=>by
  by_cases ej:j=i
  ·subst ej;simp [O.has] at hj
  ·rw [if_neg ej] at hj;exact hj
 refine ⟨{x:=hi.x.step ext.size rfl rfl rfl hx.2.2.1 hx.2.2.2 ext.new ext.pubnew (fun _ _ _=>rfl),lt:=fun j hj=>hi.lt j (hhas j hj),inj:=fun a b p q e=>hi.inj a b (hhas a p) (hhas b q) e,publt:=hi.publt,box:=fun j ds e=>?_,front:=fun j n k' e h0=>?_,vec:=fun j b k' ds e=>?_,smap:=fun j l e=>?_},ext⟩
 ·by_cases ej:j=i
  ·subst ej;simp at e
  ·rw [if_neg ej] at e
   obtain ⟨p1,cs2,T2,p2,p3,p4⟩:=hi.box j ds e
   exact ⟨p1,cs2,T2,p2,p3,fun m c d a b=>⟨(p4 m c d a b).1.ext ext,(p4 m c d a b).2⟩⟩
 ·by_cases ej:j=i
  ·subst ej;simp at e;omega
  ·rw [if_neg ej] at e;exact hi.front j n k' e h0
 ·by_cases ej:j=i
  ·subst ej;simp at e
  ·rw [if_neg ej] at e
   obtain ⟨p0,p⟩:=hi.vec j b k' ds e
   refine ⟨p0,fun hb'=>?_⟩
   obtain ⟨p1,cs2,T2,p2,p3,p4⟩:=p hb'
   exact ⟨p1,cs2,T2,p2,p3,fun m c d a b=>⟨(p4 m c d a b).1.ext ext,(p4 m c d a b).2⟩⟩
 ·by_cases ej:j=i
  ·subst ej;simp at e
  ·rw [if_neg ej] at e
   obtain ⟨p1,es2,ck,p2,p3,p4⟩:=hi.smap j l e
   exact ⟨p1,es2,ck,p2,p3,fun m e p a b=>⟨(p4 m e p a b).1,(p4 m e p a b).2.mono ext.pub ext.sgm⟩⟩
theorem front_step {w:World} {G:Gh} {h:Hp} {i n m k cap:Nat} {cs:Array Value} {T:TypeId} {news:Array Value} (hi:Inv w G h) (hb:h i= .front n k) (hn:0<n) (hc:w.heap[G.blk i]?=some (.cells cs T (0,0)))
  (hl:news.size=m * k) (hcap:n+m<=cap) (hcs:cap * k<=cs.size) (h1: ∀v∈news.toList,v.oneCell'=true):
  ∃w' cs',(storeCells ⟨G.blk i,n * k,none⟩ news.toList).run P w= .ok () w'/\
   Inv w' ⟨fun b o=>G.pub b o\/(b=G.blk i/\n * k<=o/\o<(n+m) * k),G.blk,G.sg,G.rv,G.rb⟩ (fun j=>if j=i then .front (n+m) k else h j)/\
   Ext w G h w' ⟨fun b o=>G.pub b o\/(b=G.blk i/\n * k<=o/\o<(n+m) * k),G.blk,G.sg,G.rv,G.rb⟩ (fun j=>if j=i then .front (n+m) k else h j)/\
   w'.heap[G.blk i]?=some (.cells cs' T (0,0))/\cs'.size=cs.size/\ ∀j,cs'[j]?=if n * k<=j/\j<(n+m) * k then news[j-n * k]? else cs[j]?:=by
 obtain ⟨_,hfp⟩:=hi.front i n k hb hn
 have hmul:(n+m) * k=n * k+m * k:=Nat.add_mul n m k
 have hle:(n+m) * k<=cs.size:=Nat.le_trans (Nat.mul_le_mul_right k hcap) hcs
 have hrun:=run_storeCells_at (P:=P) (G.blk i) (n * k) T news.toList 0 cs w hc (by simp;omega) h1
 simp only [Nat.add_zero] at hrun
 generalize hcs':(cs.toList.take (n * k)++news.toList++cs.toList.drop (n * k+news.toList.length)).toArray=cs' at hrun
 have hsz:cs'.size=cs.size:=by rw [<-hcs'];simp;omega
 have hget: ∀j,cs'[j]?=if n * k<=j/\j<(n+m) * k then news[j-n * k]? else cs[j]?:=fun j=>by
  rw [<-hcs',List.getElem?_toArray,splice_get _ _ _ _ (by simp;omega)]
  simp [hl,hmul]
 have hrow:(w.setRow (G.blk i) cs').heap[G.blk i]?=some (.cells cs' T (0,0)):=setRow_heap w _ cs cs' T _ hc
 have hoth: ∀b,b≠G.blk i->(w.setRow (G.blk i) cs').heap[b]?=w.heap[b]?:=fun b e=>setRow_other w _ b cs' e
 have hib:(h i).has=true:=by rw [hb];simp [O.has,hn]
 have hne: ∀j,(h j).has=true->j≠i->G.blk j≠G.blk i:=fun j hj e e'=>e (hi.inj j i hj hib e')
 have hx:=hx_one (h:=h) (h':=fun j=>if j=i then .front (n+m) k else h j) (i:=i) (fun j q=>if_neg q) (by rw [hb];rfl) (by simp [O.plain])
 have ext:Ext w G h (w.setRow (G.blk i) cs') ⟨fun b o=>G.pub b o\/(b=G.blk i/\n * k<=o/\o<(n+m) * k),G.blk,G.sg,G.rv,G.rb⟩ (fun j=>if j=i then .front (n+m) k else h j):= {
  os:=rfl
  sgm:=fun _ _ e=>e
  idm:=fun j m e=>⟨m,hx.1 j m e⟩
  rvm:=fun j R e=>⟨⟨R,hx.2.1 j R e⟩,rfl⟩
  rbnew:=fun j R e b hb=> .inl ⟨j,R,hx.2.2.2 j R e,hb⟩
  idn:=fun j m e=>⟨j,m,hx.2.2.1 j m e⟩
  sgn:=fun _=>rfl
  sgw:=fun _ _ e=> .inl e
  tape:=rfl
  output:=rfl
  size:=by simp
  pub:=fun b o p=>⟨.inl p,by
   by_cases e:b=G.blk i
   ·subst e
    have ho: ¬(n * k<=o/\o<(n+m) * k):=fun ho=>hfp o ho.1 p
    have:=hget o
    rw [if_neg ho] at this
    simp [World.cell?,hrow,hc,this]
   ·exact World.cell?_of_block (hoth b e)⟩
  box:=fun j ds e=>by
   have ej:j≠i:=fun ej=>by subst ej;rw [hb] at e;cases e
   exact ⟨⟨ds,by rw [if_neg ej,e],rfl⟩,rfl⟩
  tok:=fun j n' k' e=>by
   by_cases ej:j=i
   ·subst ej;rw [hb] at e;cases e
    exact ⟨n+m,if_pos rfl,by omega,fun _ _=>⟨rfl,by rw [shape_size hrow,shape_size hc,hsz]⟩⟩
   ·exact ⟨n',by rw [if_neg ej,e],Nat.le_refl _,fun _ h0=>⟨rfl,by simp only [World.shape?];rw [hoth _ (hne j (by rw [e];simp [O.has,h0]) ej)]⟩⟩
  others:=fun b _ ho _=>hoth b (fun e=>ho i hib e.symm)
  new:=fun j hj=>by
   by_cases ej:j=i
   ·subst ej;exact .inl ⟨j,hib,rfl⟩
   ·simp only [if_neg ej] at hj;exact .inl ⟨j,hj,rfl⟩
  pubnew:=fun b o p=>by
   rcases p with p | ⟨rfl,_⟩
   ·exact .inl p
   ·exact .inr (.inr ⟨i,hib,rfl⟩)
  vec:=fun j b k' ds e=>by
   have ej:j≠i:=fun ej=>by subst ej;rw [hb] at e;cases e
   exact .inr ⟨ds,by rw [if_neg ej,e],Nat.le_refl _,fun hb'=>⟨rfl,by simp only [World.shape?];rw [hoth _ (hne j (by rw [e];exact hb') ej)]⟩⟩
  gone:=fun j e=>by
   have ej:j≠i:=fun ej=>by subst ej;rw [hb] at e;cases e
   rw [if_neg ej,e]
  smap:=fun j l e=>by
   have ej:j≠i:=fun ej=>by subst ej;rw [hb] at e;cases e
   exact ⟨⟨l,by rw [if_neg ej,e]⟩,rfl⟩}
 have hhas: ∀j,O.has (if j=i then .front (n+m) k else h j)=true->(h j).has=true:=fun j hj=>by
  by_cases ej:j=i
  ·subst ej;exact hib
  ·rw [if_neg ej] at hj;exact hj
 have hpl: ∀b o,(G.pub b o\/(b=G.blk i/\n * k<=o/\o<(n+m) * k))->b<(w.setRow (G.blk i) cs').heap.size:=fun b o p=>by
  rw [setRow_size]
  rcases p with p | ⟨rfl,_⟩
  ·exact hi.publt b o p
  ·exact hi.lt i hib
 refine ⟨_,cs',hrun,{x:=hi.x.step ext.size rfl rfl rfl hx.2.2.1 hx.2.2.2 ext.new ext.pubnew (fun b _ q=>hoth b (fun e=>q i hib e.symm)),lt:=fun j hj=>by rw [setRow_size];exact hi.lt j (hhas j hj),inj:=fun a b p q e=>hi.inj a b (hhas a p) (hhas b q) e,publt:=hpl,box:=fun j ds e=>?_,front:=fun j n' k' e h0=>?_,vec:=fun j b k' ds e=>?_,smap:=fun j l e=>?_},ext,hrow,hsz,hget⟩
 ·have ej:j≠i:=fun ej=>by subst ej;simp at e
  rw [if_neg ej] at e
  obtain ⟨p1,cs2,T2,p2,p3,p4⟩:=hi.box j ds e
  have hbj:=hne j (by rw [e];rfl) ej
  refine ⟨fun o p=>?_,cs2,T2,by rw [hoth _ hbj];exact p2,p3,fun m c d a b=>⟨(p4 m c d a b).1.ext ext,(p4 m c d a b).2⟩⟩
  rcases p with p | ⟨p,_⟩
  ·exact p1 o p
  ·exact hbj p
 ·by_cases ej:j=i
  ·subst ej
   simp at e;obtain ⟨rfl,rfl⟩:=e
   refine ⟨⟨cs',T,hrow⟩,fun o ho p=>?_⟩
   rcases p with p | ⟨_,_,p⟩
   ·exact hfp o (by omega) p
   ·omega
  ·rw [if_neg ej] at e
   obtain ⟨⟨cs2,T2,p2⟩,p3⟩:=hi.front j n' k' e h0
   have hbj:=hne j (by rw [e];simp [O.has,h0]) ej
   refine ⟨⟨cs2,T2,by rw [hoth _ hbj];exact p2⟩,fun o ho p=>?_⟩
   rcases p with p | ⟨p,_⟩
   ·exact p3 o ho p
   ·exact hbj p
 ·have ej:j≠i:=fun ej=>by subst ej;simp at e
  rw [if_neg ej] at e
  obtain ⟨p0,p⟩:=hi.vec j b k' ds e
  refine ⟨p0,fun hb'=>?_⟩
  obtain ⟨p1,cs2,T2,p2,p3,p4⟩:=p hb'
  have hbj:=hne j (by rw [e];exact hb') ej
  refine ⟨fun o p=>?_,cs2,T2,by rw [hoth _ hbj];exact p2,p3,fun m c d a b=>⟨(p4 m c d a b).1.ext ext,(p4 m c d a b).2⟩⟩
  rcases p with p | ⟨p,_⟩
  ·exact p1 o p
  ·exact hbj p
 ·have ej:j≠i:=fun ej=>by subst ej;simp at e
  rw [if_neg ej] at e
  obtain ⟨p1,es2,ck,p2,p3,p4⟩:=hi.smap j l e
  have hbj:=hne j (by rw [e];rfl) ej
  refine ⟨fun o p=>?_,es2,ck,by rw [hoth _ hbj];exact p2,p3,fun m e p a b=>⟨(p4 m e p a b).1,(p4 m e p a b).2.mono ext.pub ext.sgm⟩⟩
  rcases p with p | ⟨p,_⟩
  ·exact p1 o p
  ·exact hbj p
theorem flatten_app {es ys:List (List E)} {k n:Nat} (hn:es.length=n) (hk: ∀e∈es,e.length=k) (j:Nat):(es++ys).flatten[j]?=if j<n * k then es.flatten[j]? else ys.flatten[j-n * k]?:=by
 have hl:es.flatten.length=n * k:=by rw [flatten_len hk,hn]
 rw [List.flatten_append]
 split
 ·rw [List.getElem?_append_left (by omega)]
 ·rw [List.getElem?_append_right (by omega),hl]
theorem one_of_rel {w:World} {G:Gh} {news:Array Value} {ys:List E} (hl:news.size=ys.length) (hr: ∀(j:Nat) c d,news[j]?=some c->ys[j]?=some d->RvE w G c d): ∀v∈news.toList,v.oneCell'=true:=by
 intro v hv
 obtain ⟨j,hj,rfl⟩:=List.getElem_of_mem hv
 have hj':j<ys.length:=by rw [<-hl];simpa using hj
 exact (hr j _ _ (by simpa using hj) (List.getElem?_eq_getElem hj')).cell
theorem app_core {w:World} {G:Gh} {h:Hp} {t u e:TypeId} {inf:TypeInfo} {z:Value} {k i n m:Nat} {es ys:List (List E)} {x v:Value} {news:Array Value} (hi:Inv w G h)
  (ht:P.underlying t=some (.slice e)) (hinf:P.info? e=some inf) (hk:inf.size=k) (hz:inf.zero=some z) (hzs:z.cells.size=k) (hby:inf.bytes<=65536)
  (hs:Src P w u k m x news) (hm:ys.length=m) (hyk: ∀y∈ys,y.length=k) (hnr: ∀(j:Nat) c d,news[j]?=some c->ys.flatten[j]?=some d->RvE w G c d)
  (hn:es.length=n) (hbnd:n+m<=2147483648)
  (hd:(es= []/\(∃a,v= .slice a 0 0/\ ∀y,a=some y->y.spot=none)/\(h i= .dead\/h i= .front 0 k))\/(h i= .front n k/\Rv w G h v (.own i es)/\0<n)):
  ∃v' w' G',(Builtin.append_ #[t,u] ty #[v,x]).run P w= .ok v' w'/\Inv w' G' (fun j=>if j=i then .front (n+m) k else h j)/\Ext w G h w' G' (fun j=>if j=i then .front (n+m) k else h j)/\
   Rv w' G' (fun j=>if j=i then .front (n+m) k else h j) v' (.own i (es++ys)):=by
 have hyl:ys.flatten.length=m * k:=by rw [flatten_len hyk,hm]
 have hn1:=one_of_rel (by rw [hs.size,hyl]) hnr
 have hmax:n+m<=maxN:=by simp only [maxN];omega
 have grow: ∀(a:Option Addr) (cap:Nat) (olds:Array Value),v= .slice a n cap->n<=cap->cap<n+m->(Builtin.firstCells k n (.slice a n cap)).run P w.drew= .ok olds w.drew->olds.size=n * k->(∀e∈es,e.length=k)->
   (∀(j:Nat) c d,olds[j]?=some c->es.flatten[j]?=some d->RvE w G c d)->(h i= .dead\/h i= .front n k)->(h i= .dead->n=0)->
   ∃v' w' G',(Builtin.append_ #[t,u] ty #[v,x]).run P w= .ok v' w'/\Inv w' G' (fun j=>if j=i then .front (n+m) k else h j)/\Ext w G h w' G' (fun j=>if j=i then .front (n+m) k else h j)/\
    Rv w' G' (fun j=>if j=i then .front (n+m) k else h j) v' (.own i (es++ys)):=by
  intro a cap olds hv hnc hc ho hol hek hor hdd hdn
  subst hv
  have hrun:=run_app_grow (ty:=ty) ht hinf hk hz hs hc ho hbnd hby
  obtain ⟨i0,x0⟩:=drew_step hi
  have hge:=grownCap_ge w (n+m) cap e
  generalize grownCap w (n+m) cap e=cap' at hrun hge
  generalize hcs:olds++news++Builtin.zeroCells z.cells (cap'-(n+m))=cs at hrun
  have hmul:(n+m) * k=n * k+m * k:=Nat.add_mul n m k
  have hsz:cs.size=cap' * k:=by
   rw [<-hcs]
   simp only [Array.size_append,hol,hs.size,size_zeroCells,hzs,<-Nat.add_mul]
   congr 1
   omega
  have hkk: ∀e∈es++ys,e.length=k:=fun e he=>(List.mem_append.1 he).elim (hek e) (hyk e)
  have hcell: ∀(j:Nat) c d,cs[j]?=some c->(es++ys).flatten[j]?=some d->RvE w G c d:=by
   intro j c d hc' hd'
   rw [flatten_app hn hek] at hd'
   rw [<-hcs,Array.append_assoc] at hc'
   split at hd'
   ·rw [Array.getElem?_append_left (by omega)] at hc';exact hor j c d hc' hd'
   ·have hj:j-n * k<m * k:=by rw [<-hyl];exact (List.getElem?_eq_some_iff.1 hd').1
    rw [Array.getElem?_append_right (by omega),hol,Array.getElem?_append_left (by rw [hs.size];exact hj)] at hc'
    exact hnr _ c d hc' hd'
  obtain ⟨i1,x1⟩:=alloc_step (T:=e) (cs:=cs) (pn:=fun o=>o<(n+m) * k) (f:=i) (h':=fun j=>if j=i then .front (n+m) k else h j) i0
   (by
     rcases hdd with hdd | hdd
     ·exact .inl hdd
     ·exact .inr ⟨n,k,n+m,hdd,if_pos rfl,by omega,fun q=>by
       rcases Nat.eq_zero_or_pos n with hn0 | hn0
       ·exact hn0
       ·have:m=0:=by omega
        omega⟩)
   (fun j e=>by simp [e]) (fun ds e=>by simp at e) (fun n' k' e=>by simp at e;obtain ⟨rfl,rfl⟩:=e;intro _ o ho;omega)
  have hnew:(w.drew.alloc (.cells cs e)).heap[w.heap.size]?=some (.cells cs e (0,0)):=by show (w.heap.push _)[w.heap.size]?=_;simp
  have hle:(n+m) * k<=cap' * k:=Nat.mul_le_mul_right k hge
  refine ⟨_,_,_,hrun,i1,x0.trans x1,.own (k:=k) (new_list hnew (fun j hj=> .inr ⟨rfl,hj⟩) (by simp [hn,hm]) hkk hge hmax (by omega) (fun j c d hc hd=>(hcell j c d hc hd).mono (x0.trans x1).pub (x0.trans x1).sgm)) hkk ?_⟩
  have hpos:0<n+m:=by omega
  refine ⟨n+m,if_pos rfl,by simp [hn,hm],fun _=> .inr ⟨by simp [hn,hm];omega,cap',cs,e,(0,0),?_,?_,by omega⟩⟩
  ·simp [Gh.new,hn,hm]
  ·simpa [Gh.new] using hnew
 rcases hd with ⟨rfl,⟨a,rfl,ha⟩,hdd⟩ | ⟨hb,hv,hn0⟩
 ·simp only [List.length_nil] at hn
  subst hn
  rcases Nat.eq_zero_or_pos m with hm0 | hm0
  ·subst hm0
   have:ys= []:=List.length_eq_zero_iff.1 hm
   subst this
   have hn0:news= #[]:=Array.eq_empty_of_size_eq_zero (by rw [hs.size,Nat.zero_mul])
   obtain ⟨i1,x1⟩:=inv_front0 (k:=k) hi hdd
   have hrun:=run_app_room (ty:=ty) ht hinf hk hs (a:=a) (n:=0) (cap:=0) (Nat.le_refl _) (w':=w) (by cases a <;>simp [hn0,storeCells])
   refine ⟨_,_,_,hrun,i1,x1,.own (k:=k) (empty_sl ha fun _=>rfl) (by simp) ⟨0,if_pos rfl,Nat.le_refl _,fun _=> .inl ⟨rfl,a,rfl,ha⟩⟩⟩
  ·refine grow a 0 #[] rfl (Nat.le_refl _) (by omega) ?_ (by simp) (by simp) (by simp) hdd (fun _=>rfl)
   cases a <;>simp [Builtin.firstCells,loadCells,loadCellsFrom]
 ·cases hv with
  | own hx hek ht'=>
   rename_i k'
   obtain ⟨N,hN,_,hcase⟩:=ht'
   rw [hb] at hN
   simp only [O.front.injEq] at hN
   obtain ⟨rfl,rfl⟩:=hN
   rcases hcase hn with ⟨h0,_⟩ | ⟨hpos,cap,cs,T,fr,hve,hcs,hcapcs⟩
   ·omega
   ·rcases rve_sl hx with ⟨_,_,e1,e2,_⟩ | ⟨b,off,cap2,k2,uu,e1,hcap,_,hkk,hp,hr⟩
    ·have h00:es.length=0:=by rw [e2];rfl
     omega
    rw [hve] at e1
    simp only [Value.slice.injEq,Option.some.injEq,Addr.mk.injEq] at e1
    obtain ⟨⟨rfl,rfl,_⟩,hlen,rfl⟩:=e1
    subst hve
    have hk2:k2=k:=by
     obtain ⟨y,hy⟩:=List.exists_mem_of_length_pos (show 0<es.length by omega)
     rw [<-hkk y hy,hek y hy]
    subst hk2
    obtain ⟨⟨cs0,T0,hc0⟩,hfp⟩:=hi.front i n k2 hb hn0
    rw [hcs] at hc0
    simp only [Option.some.injEq,Obj.cells.injEq] at hc0
    obtain ⟨rfl,rfl,rfl⟩:=hc0
    rw [hn] at hp
    have hnk:n * k2<=cs.size:=by
     have:n * k2<=cap * k2:=Nat.mul_le_mul_right k2 (by omega)
     omega
    have hold: ∀(j:Nat) c d,cs[j]?=some c->es.flatten[j]?=some d->RvE w G c d:=by
     intro j c d hc hd
     have hj:j<n * k2:=by rw [<-hn,<-flatten_len hek];exact (List.getElem?_eq_some_iff.1 hd).1
     have h2:=(hp j hj).2
     simp only [World.cell?,hcs,Nat.zero_add] at h2
     rw [hc] at h2
     simp at h2;subst h2
     exact hr j d hd
    by_cases hroom:n+m<=cap
    ·obtain ⟨w',cs',hrun,i1,x1,hc',hsz',hget⟩:=front_step (P:=P) hi hb hn0 hcs hs.size hroom hcapcs hn1
     have hrun':=run_app_room (ty:=ty) ht hinf hk hs (a:=some ⟨G.blk i,0,none⟩) hroom (w':=w') (by simp only [addr_add,Nat.zero_add];exact hrun)
     have hle:(n+m) * k2<=cap * k2:=Nat.mul_le_mul_right k2 hroom
     have hmul:(n+m) * k2=n * k2+m * k2:=Nat.add_mul n m k2
     have hkk2: ∀e∈es++ys,e.length=k2:=fun e he=>(List.mem_append.1 he).elim (hek e) (hyk e)
     rw [hn]
     refine ⟨_,_,_,hrun',i1,x1,.own (k:=k2) (new_list hc' (fun j hj=>?_) (by simp [hn,hm]) hkk2 hroom hmax (by omega) (fun j c d hc hd=>?_)) hkk2 ?_⟩
     ·by_cases hj':j<n * k2
      ·exact .inl (by have:=(hp j hj').1;rwa [Nat.zero_add] at this)
      ·exact .inr ⟨rfl,by omega,hj⟩
     ·rw [hget] at hc
      rw [flatten_app hn hek] at hd
      split at hd
      ·rw [if_neg (by omega)] at hc;exact (hold j c d hc hd).mono x1.pub x1.sgm
      ·have hj:j-n * k2<m * k2:=by rw [<-hyl];exact (List.getElem?_eq_some_iff.1 hd).1
       rw [if_pos (by omega)] at hc
       exact (hnr _ c d hc hd).mono x1.pub x1.sgm
     ·exact ⟨n+m,if_pos rfl,by simp [hn,hm],fun _=> .inr ⟨by simp [hn,hm];omega,cap,cs',T,(0,0),by simp [hn,hm],hc',by omega⟩⟩
    ·refine grow (some ⟨G.blk i,0,none⟩) cap (cs.extract 0 (n * k2)) (by rw [hn]) (by omega) (by omega) ?_ (by simp;omega) hek (fun j c d hc hd=>?_) (.inr hb) (fun e=>by rw [hb] at e;cases e)
     ·have:=run_loadCells (P:=P) w.drew ⟨G.blk i,0,none⟩ (n * k2) uu (fun j hj=>by rw [addr_add];simpa using (hp j hj).2)
      simp only [Builtin.firstCells,this]
      congr 1
      apply Array.ext_getElem?
      intro j
      by_cases hj:j<n * k2
      ·have h2:=(hp j hj).2
       simp only [World.cell?,hcs,Nat.zero_add] at h2
       have e3:(cs.extract 0 (n * k2))[j]?=cs[j]?:=by
        rw [Array.getElem?_extract,if_pos (by omega),Nat.zero_add]
       rw [e3]
       simp [hj]
       simpa using h2.symm
      ·simp [hj];omega
     ·rw [Array.getElem?_extract] at hc
      split at hc
      ·exact hold j c d (by simpa using hc) hd
      ·cases hc
theorem vec_move {w:World} {G:Gh} {h h':Hp} {i f k m:Nat} {fl:Bool} {ds:List D} (hi:Inv w G h) (hb:h i= .vec fl k ds) (hd:h f= .dead)
  (hh: ∀j,j≠i->j≠f->h' j=h j) (hni:h' i= .gone) (hnf:h' f= .vec fl k (ds.take m)):
  Inv w ⟨G.pub,fun j=>if j=f then G.blk i else G.blk j,G.sg,G.rv,G.rb⟩ h'/\Ext w G h w ⟨G.pub,fun j=>if j=f then G.blk i else G.blk j,G.sg,G.rv,G.rb⟩ h':=by
 have hif:i≠f:=fun e=>by rw [e,hd] at hb;cases hb
 have bf: ∀j,j≠f->(if j=f then G.blk i else G.blk j)=G.blk j:=fun j e=>if_neg e
 have old: ∀j,j≠f->(h' j).has=true->(h j).has=true:=fun j e hj=>by
  by_cases e2:j=i
  ·rw [e2,hni] at hj;simp [O.has] at hj
  ·rw [hh j e2 e] at hj;exact hj
 have hx:=hx_two hh (by rw [hb];rfl) (by rw [hni];rfl) (by rw [hd];rfl) (by rw [hnf];rfl)
 have ext:Ext w G h w ⟨G.pub,fun j=>if j=f then G.blk i else G.blk j,G.sg,G.rv,G.rb⟩ h':= {
  os:=rfl
  sgm:=fun _ _ e=>e
  idm:=fun j m e=>⟨m,hx.1 j m e⟩
  rvm:=fun j R e=>⟨⟨R,hx.2.1 j R e⟩,rfl⟩
  rbnew:=fun j R e b hb=> .inl ⟨j,R,hx.2.2.2 j R e,hb⟩
  idn:=fun j m e=>⟨j,m,hx.2.2.1 j m e⟩
  sgn:=fun _=>rfl
  sgw:=fun _ _ e=> .inl e
  tape:=rfl
  output:=rfl
  size:=Nat.le_refl _
  pub:=fun b o p=>⟨p,rfl⟩
  box:=fun j ds' e=>by
   have e1:j≠i:=fun ej=>by rw [ej,hb] at e;cases e
   have e2:j≠f:=fun ej=>by rw [ej,hd] at e;cases e
   exact ⟨⟨ds',by rw [hh j e1 e2,e],rfl⟩,bf j e2⟩
  tok:=fun j n k' e=>by
   have e1:j≠i:=fun ej=>by rw [ej,hb] at e;cases e
   have e2:j≠f:=fun ej=>by rw [ej,hd] at e;cases e
   exact ⟨n,by rw [hh j e1 e2,e],Nat.le_refl _,fun _ _=>⟨bf j e2,rfl⟩⟩
  others:=fun _ _ _ _=>rfl
  new:=fun j hj=>by
   by_cases e:j=f
   ·subst e
    rw [hnf] at hj
    exact .inl ⟨i,by rw [hb];exact hj,if_pos rfl⟩
   ·exact .inl ⟨j,old j e hj,bf j e⟩
  pubnew:=fun _ _ p=> .inl p
  vec:=fun j b k' ds' e=>by
   by_cases e1:j=i
   ·exact .inl (by rw [e1,hni])
   have e2:j≠f:=fun ej=>by rw [ej,hd] at e;cases e
   exact .inr ⟨ds',by rw [hh j e1 e2,e],Nat.le_refl _,fun _=>⟨bf j e2,rfl⟩⟩
  gone:=fun j e=>by
   have e1:j≠i:=fun ej=>by rw [ej,hb] at e;cases e
   have e2:j≠f:=fun ej=>by rw [ej,hd] at e;cases e
   rw [hh j e1 e2,e]
  smap:=fun j l e=>by
   have e1:j≠i:=fun ej=>by rw [ej,hb] at e;cases e
   have e2:j≠f:=fun ej=>by rw [ej,hd] at e;cases e
   exact ⟨⟨l,by rw [hh j e1 e2,e]⟩,bf j e2⟩}
 have hiv:=hi.vec i fl k ds hb
 refine ⟨{x:=hi.x.step ext.size rfl rfl rfl hx.2.2.1 hx.2.2.2 ext.new ext.pubnew (fun _ _ _=>rfl),lt:=fun j hj=>?_,inj:=fun a b p q e=>?_,publt:=hi.publt,box:=fun j ds' e=>?_,front:=fun j n k' e h0=>?_,vec:=fun j b k' ds' e=>?_,smap:=fun j l e=>?_},ext⟩
 ·by_cases e:j=f
  ·subst e
   rw [hnf] at hj
   simp only [if_true]
   exact hi.lt i (by rw [hb];exact hj)
  ·show (if j=f then G.blk i else G.blk j)<_
   rw [bf j e];exact hi.lt j (old j e hj)
 ·have e':(if a=f then G.blk i else G.blk a)=(if b=f then G.blk i else G.blk b):=e
  by_cases ea:a=f <;>by_cases eb:b=f
  ·rw [ea,eb]
  ·rw [if_pos ea,if_neg eb] at e'
   have hfl:(h i).has=true:=by rw [ea,hnf] at p;rw [hb];exact p
   have:i=b:=hi.inj i b hfl (old b eb q) e'
   rw [<-this,hni] at q;simp [O.has] at q
  ·rw [if_neg ea,if_pos eb] at e'
   have hfl:(h i).has=true:=by rw [eb,hnf] at q;rw [hb];exact q
   have:a=i:=hi.inj a i (old a ea p) hfl e'
   rw [this,hni] at p;simp [O.has] at p
  ·rw [if_neg ea,if_neg eb] at e'
   exact hi.inj a b (old a ea p) (old b eb q) e'
 ·have e1:j≠i:=fun ej=>by rw [ej,hni] at e;cases e
  have e2:j≠f:=fun ej=>by rw [ej,hnf] at e;cases e
  rw [hh j e1 e2] at e
  obtain ⟨p1,cs2,T2,p2,p3,p4⟩:=hi.box j ds' e
  show (∀o,¬G.pub (if j=f then G.blk i else G.blk j) o)/\ ∃cs T,w.heap[(if j=f then G.blk i else G.blk j)]?=_/\_
  rw [bf j e2]
  exact ⟨p1,cs2,T2,p2,p3,fun m c d a b=>⟨(p4 m c d a b).1.ext ext,(p4 m c d a b).2⟩⟩
 ·have e1:j≠i:=fun ej=>by rw [ej,hni] at e;cases e
  have e2:j≠f:=fun ej=>by rw [ej,hnf] at e;cases e
  rw [hh j e1 e2] at e
  show (∃cs T,w.heap[(if j=f then G.blk i else G.blk j)]?=_)/\ ∀o,_-> ¬G.pub (if j=f then G.blk i else G.blk j) o
  rw [bf j e2]
  exact hi.front j n k' e h0
 ·have e1:j≠i:=fun ej=>by rw [ej,hni] at e;cases e
  by_cases e2:j=f
  ·rw [e2,hnf] at e
   simp only [O.vec.injEq] at e
   obtain ⟨rfl,rfl,rfl⟩:=e
   refine ⟨fun hb'=>by rw [hiv.1 hb'];simp,fun hb'=>?_⟩
   obtain ⟨p1,cs2,T2,p2,p3,p4⟩:=hiv.2 hb'
   show (∀o,¬G.pub (if j=f then G.blk i else G.blk j) o)/\ ∃cs T,w.heap[(if j=f then G.blk i else G.blk j)]?=_/\_
   rw [if_pos e2]
   refine ⟨p1,cs2,T2,p2,by simp;omega,fun m' c d a b=>?_⟩
   rw [List.getElem?_take] at b
   split at b
   ·exact ⟨(p4 m' c d a b).1.ext ext,(p4 m' c d a b).2⟩
   ·cases b
  ·rw [hh j e1 e2] at e
   obtain ⟨p0,p⟩:=hi.vec j b k' ds' e
   refine ⟨p0,fun hb'=>?_⟩
   obtain ⟨p1,cs2,T2,p2,p3,p4⟩:=p hb'
   show (∀o,¬G.pub (if j=f then G.blk i else G.blk j) o)/\ ∃cs T,w.heap[(if j=f then G.blk i else G.blk j)]?=_/\_
   rw [bf j e2]
   exact ⟨p1,cs2,T2,p2,p3,fun m c d a b=>⟨(p4 m c d a b).1.ext ext,(p4 m c d a b).2⟩⟩
 ·have e1:j≠i:=fun ej=>by rw [ej,hni] at e;cases e
  have e2:j≠f:=fun ej=>by rw [ej,hnf] at e;cases e
  rw [hh j e1 e2] at e
  obtain ⟨p1,es2,ck,p2,p3,p4⟩:=hi.smap j l e
  show (∀o,¬G.pub (if j=f then G.blk i else G.blk j) o)/\ ∃es ck,w.heap[(if j=f then G.blk i else G.blk j)]?=_/\_
  rw [bf j e2]
  exact ⟨p1,es2,ck,p2,p3,fun m e p a b=>⟨(p4 m e p a b).1,(p4 m e p a b).2.mono ext.pub ext.sgm⟩⟩
theorem inv_none {w:World} {G:Gh} {h:Hp} {i:Nat} {ob:O} (hi:Inv w G h) (hob:ob= .gone\/ ∃k,ob= .vec false k []) (hd:h i= .dead\/(ob= .gone/\ ∃fl k ds,h i= .vec fl k ds)):
  Inv w G (fun j=>if j=i then ob else h j)/\Ext w G h w G (fun j=>if j=i then ob else h j):=by
 have hobh:ob.has=false:=by rcases hob with rfl | ⟨k,rfl⟩ <;>rfl
 have hx:=hx_one (h:=h) (h':=fun j=>if j=i then ob else h j) (i:=i) (fun j q=>if_neg q) (by rcases hd with hd | ⟨_,_,_,_,hd⟩ <;>rw [hd] <;>rfl) (by rw [if_pos rfl];rcases hob with rfl | ⟨k,rfl⟩ <;>rfl)
 have ext:Ext w G h w G (fun j=>if j=i then ob else h j):= {
  os:=rfl
  sgm:=fun _ _ e=>e
  idm:=fun j m e=>⟨m,hx.1 j m e⟩
  rvm:=fun j R e=>⟨⟨R,hx.2.1 j R e⟩,rfl⟩
  rbnew:=fun j R e b hb=> .inl ⟨j,R,hx.2.2.2 j R e,hb⟩
  idn:=fun j m e=>⟨j,m,hx.2.2.1 j m e⟩
  sgn:=fun _=>rfl
  sgw:=fun _ _ e=> .inl e
  tape:=rfl
  output:=rfl
  size:=Nat.le_refl _
  pub:=fun b o p=>⟨p,rfl⟩
  box:=fun j ds e=>by
   have ej:j≠i:=fun ej=>by subst ej;rcases hd with hd | ⟨_,_,_,_,hd⟩ <;>rw [hd] at e <;>cases e
   exact ⟨⟨ds,by rw [if_neg ej,e],rfl⟩,rfl⟩
  tok:=fun j n k' e=>by
   have ej:j≠i:=fun ej=>by subst ej;rcases hd with hd | ⟨_,_,_,_,hd⟩ <;>rw [hd] at e <;>cases e
   exact ⟨n,by rw [if_neg ej,e],Nat.le_refl _,fun _ _=>⟨rfl,rfl⟩⟩
  others:=fun _ _ _ _=>rfl
  new:=fun j hj=>by
   by_cases ej:j=i
   ·subst ej;simp only [if_true,hobh] at hj;cases hj
   ·simp only [if_neg ej] at hj;exact .inl ⟨j,hj,rfl⟩
  pubnew:=fun _ _ p=> .inl p
  vec:=fun j b k' ds e=>by
   by_cases ej:j=i
   ·subst ej
    rcases hd with hd | ⟨rfl,_⟩
    ·rw [hd] at e;cases e
    ·exact .inl (if_pos rfl)
   ·exact .inr ⟨ds,by rw [if_neg ej,e],Nat.le_refl _,fun _=>⟨rfl,rfl⟩⟩
  gone:=fun j e=>by
   have ej:j≠i:=fun ej=>by subst ej;rcases hd with hd | ⟨_,_,_,_,hd⟩ <;>rw [hd] at e <;>cases e
   rw [if_neg ej,e]
  smap:=fun j l e=>by
   have ej:j≠i:=fun ej=>by subst ej;rcases hd with hd | ⟨_,_,_,_,hd⟩ <;>rw [hd] at e <;>cases e
   exact ⟨⟨l,by rw [if_neg ej,e]⟩,rfl⟩}
 have hhas: ∀j,O.has (if j=i then ob else h j)=true->(h j).has=true:=fun j hj=>by
  by_cases ej:j=i
  ·subst ej;simp only [if_true,hobh] at hj;cases hj
  ·rw [if_neg ej] at hj;exact hj
 refine ⟨{x:=hi.x.step ext.size rfl rfl rfl hx.2.2.1 hx.2.2.2 ext.new ext.pubnew (fun _ _ _=>rfl),lt:=fun j hj=>hi.lt j (hhas j hj),inj:=fun a b p q e=>hi.inj a b (hhas a p) (hhas b q) e,publt:=hi.publt,box:=fun j ds e=>?_,front:=fun j n k' e h0=>?_,vec:=fun j b k' ds e=>?_,smap:=fun j l e=>?_},ext⟩
 ·by_cases ej:j=i
  ·subst ej;simp only [if_true] at e;rcases hob with rfl | ⟨k,rfl⟩ <;>cases e
  ·rw [if_neg ej] at e
   obtain ⟨p1,cs2,T2,p2,p3,p4⟩:=hi.box j ds e
   exact ⟨p1,cs2,T2,p2,p3,fun m c d a b=>⟨(p4 m c d a b).1.ext ext,(p4 m c d a b).2⟩⟩
 ·by_cases ej:j=i
  ·subst ej;simp only [if_true] at e;rcases hob with rfl | ⟨k,rfl⟩ <;>cases e
  ·rw [if_neg ej] at e;exact hi.front j n k' e h0
 ·by_cases ej:j=i
  ·subst ej;simp only [if_true] at e
   rcases hob with rfl | ⟨k,rfl⟩ <;>cases e
   exact ⟨fun _=>rfl,fun hb=>(by cases hb)⟩
  ·rw [if_neg ej] at e
   obtain ⟨p0,p⟩:=hi.vec j b k' ds e
   refine ⟨p0,fun hb'=>?_⟩
   obtain ⟨p1,cs2,T2,p2,p3,p4⟩:=p hb'
   exact ⟨p1,cs2,T2,p2,p3,fun m c d a b=>⟨(p4 m c d a b).1.ext ext,(p4 m c d a b).2⟩⟩
 ·by_cases ej:j=i
  ·subst ej;simp only [if_true] at e
   rcases hob with rfl | ⟨k,rfl⟩ <;>cases e
  ·rw [if_neg ej] at e
   obtain ⟨p1,es2,ck,p2,p3,p4⟩:=hi.smap j l e
   exact ⟨p1,es2,ck,p2,p3,fun m e p a b=>⟨(p4 m e p a b).1,(p4 m e p a b).2.mono ext.pub ext.sgm⟩⟩
theorem vec_grow {w:World} {G:Gh} {h:Hp} {t u e:TypeId} {inf:TypeInfo} {z:Value} {k f n m cap:Nat} {ds0:List D} {ys:List (List E)} {x:Value} {news olds:Array Value} {a:Option Addr} (hi:Inv w G h) (hd:h f= .dead)
  (ht:P.underlying t=some (.slice e)) (hinf:P.info? e=some inf) (hk:inf.size=k) (hz:inf.zero=some z) (hzs:z.cells.size=k) (hby:inf.bytes<=65536)
  (hs:Src P w u k m x news) (hm:ys.length=m) (hyk: ∀y∈ys,y.length=k) (hnr: ∀(j:Nat) c d,news[j]?=some c->ys.flatten[j]?=some d->RvE w G c d) (hbnd:n+m<=2147483648)
  (hc:cap<n+m) (ho:(Builtin.firstCells k n (.slice a n cap)).run P w.drew= .ok olds w.drew) (hol:olds.size=n * k) (hdl:ds0.length=n * k)
  (hor: ∀(j:Nat) c d,olds[j]?=some c->ds0[j]?=some d->Rv w G h c d/\c.oneCell'=true):
  ∃v' w' G',(Builtin.append_ #[t,u] ty #[.slice a n cap,x]).run P w= .ok v' w'/\Inv w' G' (fun j=>if j=f then .vec true k (ds0++ys.flatten.map .e) else h j)/\
   Ext w G h w' G' (fun j=>if j=f then .vec true k (ds0++ys.flatten.map .e) else h j)/\Rv w' G' (fun j=>if j=f then .vec true k (ds0++ys.flatten.map .e) else h j) v' (.vec f (n+m) k):=by
 have hyl:ys.flatten.length=m * k:=by rw [flatten_len hyk,hm]
 have hn1:=one_of_rel (by rw [hs.size,hyl]) hnr
 have hrun:=run_app_grow (ty:=ty) ht hinf hk hz hs hc ho hbnd hby
 obtain ⟨i0,x0⟩:=drew_step hi
 have hge:=grownCap_ge w (n+m) cap e
 generalize grownCap w (n+m) cap e=cap' at hrun hge
 generalize hcs:olds++news++Builtin.zeroCells z.cells (cap'-(n+m))=cs at hrun
 have hmul:(n+m) * k=n * k+m * k:=Nat.add_mul n m k
 have hsz:cs.size=cap' * k:=by
  rw [<-hcs]
  simp only [Array.size_append,hol,hs.size,size_zeroCells,hzs,<-Nat.add_mul]
  congr 1
  omega
 have hle:(n+m) * k<=cap' * k:=Nat.mul_le_mul_right k hge
 have hlen:(ds0++ys.flatten.map D.e).length=(n+m) * k:=by rw [List.length_append,List.length_map,hdl,hyl,hmul]
 have hcell: ∀(j:Nat) c d,cs[j]?=some c->(ds0++ys.flatten.map D.e)[j]?=some d->Rv w.drew G h c d/\c.oneCell'=true:=by
  intro j c d hc' hd'
  rw [<-hcs,Array.append_assoc] at hc'
  by_cases hj:j<n * k
  ·rw [Array.getElem?_append_left (by omega)] at hc'
   rw [List.getElem?_append_left (by omega)] at hd'
   exact ⟨(hor j c d hc' hd').1.ext x0,(hor j c d hc' hd').2⟩
  ·rw [List.getElem?_append_right (by omega),hdl,List.getElem?_map] at hd'
   obtain ⟨d0,h0,rfl⟩:=Option.map_eq_some_iff.1 hd'
   have hj2:j-n * k<m * k:=by rw [<-hyl];exact (List.getElem?_eq_some_iff.1 h0).1
   rw [Array.getElem?_append_right (by omega),hol,Array.getElem?_append_left (by rw [hs.size];exact hj2)] at hc'
   exact ⟨(Rv.e (hnr _ c d0 hc' h0)).ext x0,(hnr _ c d0 hc' h0).cell⟩
 obtain ⟨i1,x1⟩:=alloc_step (T:=e) (cs:=cs) (pn:=fun _=>False) (f:=f) (h':=fun j=>if j=f then .vec true k (ds0++ys.flatten.map .e) else h j) i0 (.inl hd)
  (fun j e=>by simp [e]) (fun ds e=>by simp at e) (fun n' k' e=>by simp at e)
  (fun b k' ds e=>by cases (if_pos rfl).symm.trans e;exact ⟨rfl,fun _ p=>p,by omega,hcell⟩)
 have hnew:(w.drew.alloc (.cells cs e)).heap[w.heap.size]?=some (.cells cs e (0,0)):=by show (w.heap.push _)[w.heap.size]?=_;simp
 refine ⟨_,_,_,hrun,i1,x0.trans x1,.vec (by simp) (by simp only [maxN];omega) hge fun b k' ds' e'=>?_⟩
 cases (if_pos rfl).symm.trans e'
 exact ⟨rfl,by omega,fun hb=>(by cases hb),fun _=>⟨by simp [Gh.new],cs,e,(0,0),by simpa [Gh.new] using hnew,by omega⟩⟩
theorem happ_alwr (h:Hp) (f i:Nat) (d:Option D) (ob ob':O) (tc:List Nat):happ h f {d:=d,al:= [ob],wr:= [(i,ob')],tc:=tc} =fun j=>if j=f then ob else if j=i then ob' else h j:=by
 funext j
 simp only [happ,List.length_cons,List.length_nil]
 by_cases e:j=f
 ·subst e;simp
 ·rw [if_neg (by omega),if_neg e]
  by_cases e2:j=i
  ·subst e2;simp
  ·rw [if_neg e2]
   have:(i==j)=false:=by simp;exact fun e'=>e2 e'.symm
   simp [List.find?_cons,this]
theorem vec_app {w:World} {G:Gh} {h:Hp} {t u e:TypeId} {inf:TypeInfo} {z:Value} {k i f n m:Nat} {fl:Bool} {ds:List D} {ys:List (List E)} {x v:Value} {news:Array Value} (hi:Inv w G h) (hd:h f= .dead)
  (ht:P.underlying t=some (.slice e)) (hinf:P.info? e=some inf) (hk:inf.size=k) (hz:inf.zero=some z) (hzs:z.cells.size=k) (hby:inf.bytes<=65536)
  (hs:Src P w u k m x news) (hm:ys.length=m) (hyk: ∀y∈ys,y.length=k) (hnr: ∀(j:Nat) c d,news[j]?=some c->ys.flatten[j]?=some d->RvE w G c d) (hbnd:n+m<=2147483648)
  {kk:Nat} (hb:h i= .vec fl kk ds) (hv:Rv w G h v (.vec i n k)):
  ∃v' w' G',(Builtin.append_ #[t,u] ty #[v,x]).run P w= .ok v' w'/\Inv w' G' (fun j=>if j=f then .vec (fl || decide (0<m)) k (ds.take (n * k)++ys.flatten.map .e) else if j=i then .gone else h j)/\
   Ext w G h w' G' (fun j=>if j=f then .vec (fl || decide (0<m)) k (ds.take (n * k)++ys.flatten.map .e) else if j=i then .gone else h j)/\
   Rv w' G' (fun j=>if j=f then .vec (fl || decide (0<m)) k (ds.take (n * k)++ys.flatten.map .e) else if j=i then .gone else h j) v' (.vec f (n+m) k):=by
 obtain ⟨a,cap,rfl,_,_,hnc,hvo⟩:=rv_vec hv
 obtain ⟨rfl,hlen,h0,h1⟩:=hvo _ _ _ hb
 have hif:i≠f:=fun e=>by rw [e,hd] at hb;cases hb
 have hyl:ys.flatten.length=m * kk:=by rw [flatten_len hyk,hm]
 have hn1:=one_of_rel (by rw [hs.size,hyl]) hnr
 have hiv:=hi.vec i fl kk ds hb
 have grow: ∀olds:Array Value,cap<n+m->(Builtin.firstCells kk n (.slice a n cap)).run P w.drew= .ok olds w.drew->olds.size=n * kk->
   (∀(j:Nat) c d,olds[j]?=some c->(ds.take (n * kk))[j]?=some d->Rv w G h c d/\c.oneCell'=true)-> ∃v' w' G',(Builtin.append_ #[t,u] ty #[.slice a n cap,x]).run P w= .ok v' w'/\
   Inv w' G' (fun j=>if j=f then .vec (fl || decide (0<m)) kk (ds.take (n * kk)++ys.flatten.map .e) else if j=i then .gone else h j)/\
   Ext w G h w' G' (fun j=>if j=f then .vec (fl || decide (0<m)) kk (ds.take (n * kk)++ys.flatten.map .e) else if j=i then .gone else h j)/\
   Rv w' G' (fun j=>if j=f then .vec (fl || decide (0<m)) kk (ds.take (n * kk)++ys.flatten.map .e) else if j=i then .gone else h j) v' (.vec f (n+m) kk):=fun olds hc ho hol hor=>by
  have hfl:(fl || decide (0<m))=true:=by
   cases fl with
   | true=>rfl
   | false=>have:=(h0 rfl).1;simp;omega
  rw [hfl]
  obtain ⟨i0,x0⟩:=inv_none (ob:= .gone) hi (.inl rfl) (.inr ⟨rfl,fl,kk,ds,hb⟩)
  obtain ⟨v',w',G',q1,q2,q3,q4⟩:=vec_grow (ty:=ty) (ds0:=ds.take (n * kk)) i0 (f:=f) (by show (if f=i then _ else _)=_;rw [if_neg (fun e=>hif e.symm),hd]) ht hinf hk hz hzs hby hs hm hyk hnr hbnd hc ho hol (by simp;omega)
   (fun j c d a b=>⟨(hor j c d a b).1.ext x0,(hor j c d a b).2⟩)
  exact ⟨v',w',G',q1,q2,x0.trans q3,q4⟩
 cases hfl:fl with
 | false=>
  subst hfl
  obtain ⟨rfl,rfl,hsp⟩:=h0 rfl
  have hds:=hiv.1 rfl
  subst hds
  rcases Nat.eq_zero_or_pos m with hm0 | hm0
  ·subst hm0
   have:ys= []:=List.length_eq_zero_iff.1 hm
   subst this
   have hn0:news= #[]:=Array.eq_empty_of_size_eq_zero (by rw [hs.size,Nat.zero_mul])
   have hrun:=run_app_room (ty:=ty) ht hinf hk hs (a:=a) (n:=0) (cap:=0) (Nat.le_refl _) (w':=w) (by cases a <;>simp [hn0,storeCells])
   obtain ⟨i1,x1⟩:=vec_move (m:=0) (f:=f) (h':=fun j=>if j=f then .vec (false || decide (0<0)) kk (([]:List D).take (0 * kk)++([]:List (List E)).flatten.map .e) else if j=i then .gone else h j) hi hb hd
    (fun j a b=>by simp [a,b]) (by simp [hif]) (by simp)
   refine ⟨_,_,_,hrun,i1,x1,.vec (by simp) (Nat.zero_le _) (Nat.le_refl _) fun b k' ds' e'=>?_⟩
   cases (if_pos rfl).symm.trans e'
   exact ⟨rfl,by simp,fun _=>⟨rfl,rfl,hsp⟩,fun hb=>(by cases hb)⟩
  ·refine grow #[] (by omega) ?_ (by simp) (by simp)
   cases a <;>simp [Builtin.firstCells,loadCells,loadCellsFrom]
 | true=>
  subst hfl
  obtain ⟨rfl,cs,T,fr,hcs,hcap⟩:=h1 rfl
  obtain ⟨hnp,cs0,T0,hc0,hcl,hcr⟩:=hiv.2 rfl
  rw [hcs] at hc0
  simp only [Option.some.injEq,Obj.cells.injEq] at hc0
  obtain ⟨rfl,rfl,rfl⟩:=hc0
  have hmul:(n+m) * kk=n * kk+m * kk:=Nat.add_mul n m kk
  by_cases hroom:n+m<=cap
  ·have hle:(n+m) * kk<=cap * kk:=Nat.mul_le_mul_right kk hroom
   have hnv:RvA w G h news (ys.flatten.map .e):=RvA.list (by rw [hs.size,hyl]) hnr
   obtain ⟨w',cs',q1,q2,q3,q4,q5⟩:=vec_write (P:=P) (off:=n * kk) (h':=fun j=>if j=i then .vec true kk (ds.take (n * kk)++ys.flatten.map .e++ds.drop (n * kk+(ys.flatten.map D.e).length)) else h j) hi hb hcs hnv (by omega) (by rw [List.length_map,hyl];omega)
    (fun j e=>by simp [e]) (if_pos rfl)
   have hrun:=run_app_room (ty:=ty) ht hinf hk hs (a:=some ⟨G.blk i,0,none⟩) hroom (w':=w') (by simp only [addr_add,Nat.zero_add];exact q1)
   have htk:(ds.take (n * kk)++ys.flatten.map D.e++ds.drop (n * kk+(ys.flatten.map D.e).length)).take ((n+m) * kk)=ds.take (n * kk)++ys.flatten.map D.e:=by
    rw [List.take_append_of_le_length (by rw [List.length_append,List.length_map,hyl,List.length_take];omega),List.take_of_length_le]
    rw [List.length_append,List.length_map,hyl,List.length_take];omega
   obtain ⟨i1,x1⟩:=vec_move (m:=(n+m) * kk) (f:=f) (h':=fun j=>if j=f then .vec (true || decide (0<m)) kk (ds.take (n * kk)++ys.flatten.map .e) else if j=i then .gone else h j) q2 (if_pos rfl) (by show (if f=i then _ else _)=_;rw [if_neg (fun e=>hif e.symm),hd])
    (fun j a b=>by simp [a,b]) (by simp [hif]) (by simp only [if_true];rw [htk];rfl)
   refine ⟨_,_,_,hrun,i1,q3.trans x1,.vec (by simp) (by simp only [maxN];omega) hroom fun b k' ds' e'=>?_⟩
   cases (if_pos rfl).symm.trans e'
   refine ⟨rfl,by rw [List.length_append,List.length_map,hyl,List.length_take];omega,fun hb=>(by cases hb),fun _=>⟨by simp,cs',T,(0,0),by simpa using q4,by omega⟩⟩
  ·obtain ⟨uu,hu1,hu2⟩:=vec_cells hi hb
   have hlc:=run_loadCells (P:=P) w.drew ⟨G.blk i,0,none⟩ (n * kk) uu (fun j hj=>by rw [addr_add,Nat.zero_add];simpa using hu1 j (by omega))
   refine grow _ (by omega) hlc (by simp) (fun j c d hc hd=>?_)
   rw [List.getElem?_take] at hd
   split at hd
   ·rename_i hj
    simp [hj] at hc;subst hc
    exact hu2 j d hd
   ·cases hd
theorem chunks {k:Nat} : ∀(m:Nat) (l:List E),l.length=m * k-> ∃ys:List (List E),ys.length=m/\(∀y∈ys,y.length=k)/\ys.flatten=l
 | 0,l,h=>⟨[],rfl,fun y hy=>(by cases hy),(by simp at h;simp [h])⟩
 | m+1,l,h=>by
  rw [Nat.succ_mul] at h
  obtain ⟨ys,h1,h2,h3⟩:=chunks (k:=k) m (l.drop k) (by rw [List.length_drop];omega)
  refine ⟨l.take k::ys,by simp [h1],fun y hy=>?_,by simp [h3]⟩
  rcases List.mem_cons.1 hy with rfl | hy
  ·rw [List.length_take];omega
  ·exact h2 y hy
theorem rve_of {w:World} {G:Gh} {h:Hp} {x:Value} {d:E} (r:Rv w G h x (.e d)):RvE w G x d:=by
 cases r with | e r=>exact r
theorem src_vec {w:World} {G:Gh} {h:Hp} {u e:TypeId} {x:Value} {j m k k2:Nat} {b2:Bool} {ds2:List D} (hu:P.underlying u=some (.slice e)) (hi:Inv w G h) (r:Rv w G h x (.vec j m k)) (hb:h j= .vec b2 k2 ds2)
  (hx: ∃xs:List E,ds2.take (m * k)=xs.map .e): ∃(ys:List (List E)) (news:Array Value),ys.length=m/\(∀y∈ys,y.length=k)/\ds2.take (m * k)=ys.flatten.map .e/\Src P w u k m x news/\ ∀(j:Nat) c d,news[j]?=some c->ys.flatten[j]?=some d->RvE w G c d:=by
 obtain ⟨a,cap,rfl,_,hm,hnc,hvo⟩:=rv_vec r
 obtain ⟨rfl,hlen,h0,h1⟩:=hvo _ _ _ hb
 obtain ⟨xs,hxs⟩:=hx
 have hxl:xs.length=m * k2:=by have:=congrArg List.length hxs;rw [List.length_take,List.length_map] at this;omega
 obtain ⟨ys,c1,c2,c3⟩:=chunks m xs hxl
 subst c3
 cases b2 with
 | false=>
  obtain ⟨rfl,rfl,_⟩:=h0 rfl
  have:ys= []:=List.length_eq_zero_iff.1 c1
  subst this
  refine ⟨[],#[],rfl,c2,hxs,⟨⟨_,hu,rfl⟩,rfl,?_,?_,by simp⟩,by simp⟩ <;>cases a <;>simp [Builtin.firstCells,loadCells,loadCellsFrom]
 | true=>
  obtain ⟨rfl,_⟩:=h1 rfl
  obtain ⟨uu,hu1,hu2⟩:=vec_cells hi hb
  refine ⟨ys,((List.range (m * k2)).map uu).toArray,c1,c2,hxs,⟨⟨_,hu,rfl⟩,rfl,run_loadCells w ⟨G.blk j,0,none⟩ _ uu (fun j hj=>by rw [addr_add,Nat.zero_add];exact hu1 j (by omega)),
   run_loadCells w.drew ⟨G.blk j,0,none⟩ _ uu (fun j hj=>by rw [addr_add,Nat.zero_add];simpa using hu1 j (by omega)),by simp⟩,fun j c d hc hd=>?_⟩
  have hj:j<m * k2:=by have:=(Array.getElem?_eq_some_iff.1 hc).1;simpa using this
  simp [hj] at hc;subst hc
  have h3:ds2[j]?=some (.e d):=by
   have:=congrArg (·[j]?) hxs
   simp only [List.getElem?_take,if_pos hj,List.getElem?_map,hd] at this
   exact this
  exact rve_of (hu2 j _ h3).1
theorem happ_altc (h:Hp) (f:Nat) (d:Option D) (ob:O) (tc:List Nat):happ h f {d:=d,al:= [ob],tc:=tc} =fun i=>if i=f then ob else h i:=happ_al h f d ob
theorem s_app {t u e e':TypeId} {inf:TypeInfo} {z:Value} {k:Nat} {ya yx:Operand} {a x:X} (ha:cvX ya=some a) (hx:cvX yx=some x) (ht:P.underlying t=some (.slice e)) (hu:P.underlying u=some (.slice e'))
  (hinf:P.info? e=some inf) (hk:P.cellsOf e=k) (hz:inf.zero=some z) (hzs:z.cells.size=k) (hby:inf.bytes<=65536)
  (hk':opE P ev hpR f dr gd g (.app k a x) K):Sound P ⟨dst,.call {callee:= .builtin .append,args:= #[ya,yx],argTypes:= #[t,u]},ty,pos,after,gu⟩ ev hpR f gd g K:=by
 have hk2:inf.size=k:=by rw [<-hk];simp [Program.cellsOf,hinf]
 simp only [opE] at hk'
 obtain ⟨hgd,hk'⟩:=hk'
 obtain ⟨o1,d1,hk1,h1⟩:=evG_spec hk'
 obtain ⟨o2,d2,hk2',h2⟩:=evG_spec hk1
 have run: ∀ {w w':World} {r:Act} {v':Value},(Builtin.append_ #[t,u] ty #[r.eval ya,r.eval yx]).run P w= .ok v' w'->
   (execOp r.eval ⟨dst,.call {callee:= .builtin .append,args:= #[ya,yx],argTypes:= #[t,u]},ty,pos,after,gu⟩).run P w= .ok (.value v') w':=fun e=>by
  simp [execOp,resolve,invoke,builtin,e,Result.andThen]
 split at hk2'
 case h_2=>
  split at hk2'
  case h_2=>exact hk2'.elim
  rename_i j m kk _
  split at hk2'
  case h_2=>exact hk2'.elim
  rename_i b2 k2 ds2 hds2
  split at hk2'
  ·
   refine ⟨_,_,hk2',fun hg _=>(by rw [hgd] at hg;cases hg),by simp,fun ⟨p1,p2,p3,p4,p5⟩ hg=>?_⟩
   intro w G h r K Q hi ht' hdd hr hK
   subst p3
   have hv:=h1 (fun d' e=>hr ya a d' ha e) hg p1
   have hb2:h j= .vec b2 k2 ds2:=by rw [ht' j (by simp),hds2]
   have hd:h f= .dead:=by simpa using hdd 0 (by simp)
   obtain ⟨ys,news,l1,l2,l3,hs,hnr⟩:=src_vec (u:=u) hu hi (h2 (fun d' e=>hr yx x d' hx e) hg p2) hb2 p4
   obtain ⟨aa,e1,hsp⟩: ∃aa,r.eval ya= .slice aa 0 0/\ ∀y,aa=some y->y.spot=none:=by
    generalize r.eval ya=z at hv
    cases hv with | zs ha=>exact ⟨_,rfl,ha⟩
   rw [happ_altc] at hK
   have l3':([]:List D).take (0 * kk)++ds2.take (m * kk)=ys.flatten.map .e:=by rw [l3];simp
   rw [l3',Nat.zero_add,Bool.false_or] at hK
   rcases Nat.eq_zero_or_pos m with hm0 | hm0
   ·subst hm0
    have:ys= []:=List.length_eq_zero_iff.1 l1
    subst this
    have hn0:news= #[]:=Array.eq_empty_of_size_eq_zero (by rw [hs.size,Nat.zero_mul])
    have hrun:=run_app_room (ty:=ty) ht hinf hk2 hs (a:=aa) (n:=0) (cap:=0) (Nat.le_refl _) (w':=w) (by cases aa <;>simp [hn0,storeCells])
    obtain ⟨i1,x1⟩:=inv_none (i:=f) (ob:= .vec false kk []) hi (.inr ⟨kk,rfl⟩) (.inl hd)
    refine wp_of_run (run (by rw [e1];exact hrun)) (hK _ w G (fun d' e'=>?_) i1 x1)
    cases e'
    refine .vec (by simp) (Nat.zero_le _) (Nat.le_refl _) fun b k' ds' e'=>?_
    cases (if_pos rfl).symm.trans e'
    exact ⟨rfl,by simp,fun _=>⟨rfl,rfl,hsp⟩,fun hb=>(by cases hb)⟩
   ·obtain ⟨v',w',G',q1,q2,q3,q4⟩:=vec_grow (ty:=ty) (ds0:= []) (n:=0) (cap:=0) (olds:= #[]) (a:=aa) hi hd ht hinf hk2 hz hzs hby hs l1 l2 hnr (by omega) (by omega)
     (by cases aa <;>simp [Builtin.firstCells,loadCells,loadCellsFrom]) (by simp) (by simp) (by simp)
    rw [List.nil_append] at q2 q3 q4
    rw [Nat.zero_add] at q4
    rw [decide_eq_true hm0] at hK
    exact wp_of_run (run (by rw [e1];exact q1)) (hK v' w' G' (fun d' e'=>by cases e';exact q4) q2 q3)
  ·rename_i i n k0
   split at hk2'
   case h_2=>exact hk2'.elim
   rename_i fl kk0 ds hds
   refine ⟨_,_,hk2',fun hg _=>(by rw [hgd] at hg;cases hg),by simp,fun ⟨p1,p2,p3,p3',p4,p5⟩ hg=>?_⟩
   intro w G h r K Q hi ht' hdd hr hK
   subst p3
   subst p3'
   have hv:=h1 (fun d' e=>hr ya a d' ha e) hg p1
   have hb2:h j= .vec b2 k2 ds2:=by rw [ht' j (by simp),hds2]
   have hb:h i= .vec fl kk0 ds:=by rw [ht' i (by simp),hds]
   obtain ⟨ys,news,l1,l2,l3,hs,hnr⟩:=src_vec (u:=u) hu hi (h2 (fun d' e=>hr yx x d' hx e) hg p2) hb2 p4
   obtain ⟨v',w',G',q1,q2,q3,q4⟩:=vec_app (ty:=ty) hi (by simpa using hdd 0 (by simp)) ht hinf hk2 hz hzs hby hs l1 l2 hnr p5 hb hv
   rw [happ_alwr,l3] at hK
   exact wp_of_run (run q1) (hK v' w' G' (fun d' e'=>by cases e';exact q4) q2 q3)
  ·exact hk2'.elim
 rename_i ys hys
 split at hk2'
 ·rcases hk2' with hk2' | hk2'
  case inr=>
   refine Sound.al hgd hk2' fun ⟨p1,p2,p3,p4⟩ hg w G h r hi hd hr=>?_
   have hv:=h1 (fun d' e=>hr ya a d' ha e) hg p1
   obtain ⟨news,hs,hnr⟩:=src_list hu (h2 (fun d' e=>hr yx x d' hx e) hg p2) hys (allLen_iff.1 p4)
   obtain ⟨aa,e1,hsp⟩: ∃aa,r.eval ya= .slice aa 0 0/\ ∀y,aa=some y->y.spot=none:=by
    generalize r.eval ya=z at hv
    cases hv with | zs ha=>exact ⟨_,rfl,ha⟩
   rcases Nat.eq_zero_or_pos ys.length with hm0 | hm0
   ·have:ys= []:=List.length_eq_zero_iff.1 hm0
    subst this
    have hn0:news= #[]:=Array.eq_empty_of_size_eq_zero (by rw [hs.size,List.length_nil,Nat.zero_mul])
    have hrun:=run_app_room (ty:=ty) ht hinf hk2 hs (a:=aa) (n:=0) (cap:=0) (Nat.le_refl _) (w':=w) (by cases aa <;>simp [hn0,storeCells])
    obtain ⟨i1,x1⟩:=inv_none (i:=f) (ob:= .vec false k []) hi (.inr ⟨k,rfl⟩) (.inl hd)
    refine ⟨_,_,_,run (by rw [e1];exact hrun),i1,x1,.vec (by simp) (Nat.zero_le _) (Nat.le_refl _) fun b k' ds' e'=>?_⟩
    cases (if_pos rfl).symm.trans e'
    exact ⟨rfl,by simp,fun _=>⟨rfl,rfl,hsp⟩,fun hb=>(by cases hb)⟩
   ·obtain ⟨v',w',G',q1,q2,q3,q4⟩:=vec_grow (ty:=ty) (ds0:= []) (n:=0) (cap:=0) (olds:= #[]) (a:=aa) hi hd ht hinf hk2 hz hzs hby hs rfl (allLen_iff.1 p4) hnr (by omega) (by omega)
     (by cases aa <;>simp [Builtin.firstCells,loadCells,loadCellsFrom]) (by simp) (by simp) (by simp)
    rw [List.nil_append] at q2 q3 q4
    rw [Nat.zero_add] at q4
    rw [decide_eq_true hm0]
    exact ⟨v',w',G',run (by rw [e1];exact q1),q2,q3,q4⟩
  refine Sound.al hgd hk2' fun ⟨p1,p2,p3,p4⟩ hg w G h r hi hd hr=>?_
  have hv:=h1 (fun d' e=>hr ya a d' ha e) hg p1
  obtain ⟨news,hs,hnr⟩:=src_list hu (h2 (fun d' e=>hr yx x d' hx e) hg p2) hys (allLen_iff.1 p4)
  obtain ⟨v',w',G',q1,q2,q3,q4⟩:=app_core (ty:=ty) (i:=f) (n:=0) (es:= []) (v:=r.eval ya) hi ht hinf hk2 hz hzs hby hs rfl (allLen_iff.1 p4) hnr rfl (by omega) (.inl ⟨rfl,by
   generalize r.eval ya=z at hv
   cases hv with | zs ha=>exact ⟨_,rfl,ha⟩,.inl hd⟩)
  rw [Nat.zero_add] at q2 q3 q4
  rw [List.nil_append] at q4
  exact ⟨v',w',G',run q1,q2,q3,q4⟩
 ·rename_i i n k0
  split at hk2'
  case h_2=>exact hk2'.elim
  rename_i fl kk ds hds
  refine ⟨_,_,hk2',fun hg _=>(by rw [hgd] at hg;cases hg),by simp,fun ⟨p1,p2,p3,p4,p5⟩ hg=>?_⟩
  intro w G h r K Q hi ht' hdd hr hK
  subst p3
  have hv:=h1 (fun d' e=>hr ya a d' ha e) hg p1
  obtain ⟨news,hs,hnr⟩:=src_list hu (h2 (fun d' e=>hr yx x d' hx e) hg p2) hys (allLen_iff.1 p5)
  have hb:h i= .vec fl kk ds:=by rw [ht' i (by simp),hds]
  obtain ⟨v',w',G',q1,q2,q3,q4⟩:=vec_app (ty:=ty) hi (by simpa using hdd 0 (by simp)) ht hinf hk2 hz hzs hby hs rfl (allLen_iff.1 p5) hnr p4 hb hv
  rw [happ_alwr] at hK
  exact wp_of_run (run q1) (hK v' w' G' (fun d' e'=>by cases e';exact q4) q2 q3)
 ·rename_i i es
  refine ⟨_,_,hk2',fun hg _=>(by rw [hgd] at hg;cases hg),by simp,fun ⟨p1,p2,p3,p4,p5⟩ hg=>?_⟩
  intro w G h r K Q hi ht' _ hr hK
  have hv:=h1 (fun d' e=>hr ya a d' ha e) hg p1
  obtain ⟨news,hs,hnr⟩:=src_list hu (h2 (fun d' e=>hr yx x d' hx e) hg p2) hys (allLen_iff.1 p4)
  have hb:h i= .front es.length k:=by rw [ht' i (by simp),p5]
  obtain ⟨v',w',G',q1,q2,q3,q4⟩:=app_core (ty:=ty) (i:=i) (n:=es.length) (es:=es) (v:=r.eval ya) hi ht hinf hk2 hz hzs hby hs rfl (allLen_iff.1 p4) hnr rfl p3 (by
   rcases Nat.eq_zero_or_pos es.length with h0 | h0
   ·have:es= []:=List.length_eq_zero_iff.1 h0
    subst this
    refine .inl ⟨rfl,?_,.inr hb⟩
    generalize r.eval ya=z at hv
    cases hv with
    | own hx' hek htk=>
     obtain ⟨N,hN,_,hcase⟩:=htk
     rw [hb] at hN
     simp only [O.front.injEq] at hN
     obtain ⟨rfl,rfl⟩:=hN
     rcases hcase rfl with ⟨_,hq⟩ | ⟨h0,_⟩
     ·exact hq
     ·exact absurd h0 (Nat.lt_irrefl _)
   ·exact .inr ⟨hb,hv,h0⟩)
  rw [happ_wr] at hK
  exact wp_of_run (run q1) (hK v' w' G' (fun d' e'=>by cases e';exact q4) q2 q3)
 ·exact hk2'.elim
theorem s_apps {t u e:TypeId} {inf:TypeInfo} {z:Value} {ya yx:Operand} {a x:X} (ha:cvX ya=some a) (hx:cvX yx=some x) (ht:P.underlying t=some (.slice e)) (hu:P.underlying u=some .string)
  (hinf:P.info? e=some inf) (hk:P.cellsOf e=1) (hz:inf.zero=some z) (hzs:z.cells.size=1) (hby:inf.bytes<=65536)
  (hk':opE P ev hpR f dr gd g (.apps a x) K):Sound P ⟨dst,.call {callee:= .builtin .append,args:= #[ya,yx],argTypes:= #[t,u]},ty,pos,after,gu⟩ ev hpR f gd g K:=by
 have hk2:inf.size=1:=by rw [<-hk];simp [Program.cellsOf,hinf]
 simp only [opE] at hk'
 obtain ⟨hgd,hk'⟩:=hk'
 obtain ⟨o1,d1,hk1,h1⟩:=evG_spec hk'
 obtain ⟨o2,d2,hk2',h2⟩:=evG_spec hk1
 split at hk2'
 case h_2=>exact hk2'.elim
 rename_i s
 have run: ∀ {w w':World} {r:Act} {v':Value},(Builtin.append_ #[t,u] ty #[r.eval ya,r.eval yx]).run P w= .ok v' w'->
   (execOp r.eval ⟨dst,.call {callee:= .builtin .append,args:= #[ya,yx],argTypes:= #[t,u]},ty,pos,after,gu⟩).run P w= .ok (.value v') w':=fun e=>by
  simp [execOp,resolve,invoke,builtin,e,Result.andThen]
 have hyk: ∀y∈bytesE s.data.toList,y.length=1:=fun e he=>by
  obtain ⟨b,_,rfl⟩:=List.mem_map.1 he;rfl
 have hyl:(bytesE s.data.toList).length=s.data.toList.length:=List.length_map _
 rw [hyl] at hk2'
 split at hk2'
 ·refine Sound.al hgd hk2' fun ⟨p1,p2,p3,_⟩ hg w G h r hi hd hr=>?_
  have hv:=h1 (fun d' e=>hr ya a d' ha e) hg p1
  obtain ⟨e1,_⟩:=rv_v (h2 (fun d' e=>hr yx x d' hx e) hg p2)
  obtain ⟨news,hs,hnr⟩:=src_str (P:=P) (w:=w) (G:=G) (s:=s) hu
  rw [<-e1] at hs
  obtain ⟨v',w',G',q1,q2,q3,q4⟩:=app_core (ty:=ty) (i:=f) (n:=0) (es:= []) (v:=r.eval ya) hi ht hinf hk2 hz hzs hby hs hyl hyk hnr rfl (by omega) (.inl ⟨rfl,by
   generalize r.eval ya=z at hv
   cases hv with | zs ha=>exact ⟨_,rfl,ha⟩,.inl hd⟩)
  rw [Nat.zero_add] at q2 q3 q4
  rw [List.nil_append] at q4
  exact ⟨v',w',G',run q1,q2,q3,q4⟩
 ·rename_i i es
  refine ⟨_,_,hk2',fun hg _=>(by rw [hgd] at hg;cases hg),by simp,fun ⟨p1,p2,p3,_,p5⟩ hg=>?_⟩
  intro w G h r K Q hi ht' _ hr hK
  have hv:=h1 (fun d' e=>hr ya a d' ha e) hg p1
  obtain ⟨e1,_⟩:=rv_v (h2 (fun d' e=>hr yx x d' hx e) hg p2)
  obtain ⟨news,hs,hnr⟩:=src_str (P:=P) (w:=w) (G:=G) (s:=s) hu
  rw [<-e1] at hs
  have hb:h i= .front es.length 1:=by rw [ht' i (by simp),p5]
  obtain ⟨v',w',G',q1,q2,q3,q4⟩:=app_core (ty:=ty) (i:=i) (n:=es.length) (es:=es) (v:=r.eval ya) hi ht hinf hk2 hz hzs hby hs hyl hyk hnr rfl p3 (by
   rcases Nat.eq_zero_or_pos es.length with h0 | h0
   ·have:es= []:=List.length_eq_zero_iff.1 h0
    subst this
    refine .inl ⟨rfl,?_,.inr hb⟩
    generalize r.eval ya=z at hv
    cases hv with
    | own hx' hek htk=>
     obtain ⟨N,hN,_,hcase⟩:=htk
     rw [hb] at hN
     simp only [O.front.injEq] at hN
     obtain ⟨rfl,rfl⟩:=hN
     rcases hcase rfl with ⟨_,hq⟩ | ⟨h0,_⟩
     ·exact hq
     ·exact absurd h0 (Nat.lt_irrefl _)
   ·exact .inr ⟨hb,hv,h0⟩)
  rw [happ_wr] at hK
  exact wp_of_run (run q1) (hK v' w' G' (fun d' e'=>by cases e';exact q4) q2 q3)
 ·exact hk2'.elim
theorem Rv.pl {w G h} {v:Value} {d:D} (r:Rv w G h v d):Rv w G h v d.pl:=by
 cases r with
 | own hx _ _=>exact .e hx
 | zs ha=>exact .e (empty_sl ha fun _=>rfl)
 | agg hl h1 hr=>
  refine .agg (by simp [hl]) h1 fun j c d hc hd=>?_
  simp only [List.getElem?_map,Option.map_eq_some_iff] at hd
  obtain ⟨d',hd,rfl⟩:=hd
  have:=hr j c d' hc hd
  split
  ·cases this with | own hx _ _=>exact .e hx
  ·cases this with | zs ha=>exact .e (empty_sl ha fun _=>rfl)
  ·exact this
 | e h=>exact .e h
 | bs a b c d=>exact .bs a b c d
 | rp u a b=>exact .rp u a b
 | ref a=>exact .ref a
 | refs a=>exact .refs a
 | tup a b=>exact .tup a b
 | when a b=>exact .when a b
 | fn a b c d=>exact .fn a b c d
 | vec a b c d=>exact .vec a b c d
 | vref a b=>exact .vref a b
 | mp a=>exact .mp a
 | rv a b=>exact .rv a b
 | e0=>exact .e0
 | any=>exact .any
theorem Wks.rel {w G h} : ∀ {ds ds':List D},Wks ds ds'->ds'.length=ds.length/\ ∀(j:Nat) v d',ds'[j]?=some d'->(∀d,ds[j]?=some d->Rv w G h v d)->Rv w G h v d':=by
 intro ds
 induction ds with
 | nil=>intro ds' h;cases ds' with | nil=>exact ⟨rfl,by simp⟩ | cons _ _=>exact h.elim
 | cons d r ih=>
  intro ds' h
  cases ds' with
  | nil=>exact h.elim
  | cons d' r'=>
   obtain ⟨h1,h2⟩:=h
   obtain ⟨i1,i2⟩:=ih h2
   refine ⟨by simp [i1],fun j v x hx hv=>?_⟩
   cases j with
   | zero=>
    simp at hx;subst hx
    rcases h1 with rfl | rfl | h1
    ·exact hv d' rfl
    ·exact (hv d rfl).pl
    ·exact h1 _ _ _ _ (hv d rfl)
   | succ j=>exact i2 j v x (by simpa using hx) (fun y hy=>hv y (by simpa using hy))
theorem call_step {o:Oper} {fn:FuncId} {ds ds':List D} {pre:List (Nat×O)} {eff eff':Eff} {d:D}
  (hw:Wks ds ds') (hce:CallE P fn ds' pre f eff) (hpre: ∀i ob,(i,ob)∈pre->hpR i=ob) (htc:eff.tc=pre.map (·.1)) (hd:eff.d=some d) (he:eff'= {eff with d:=some (if gd then .when true d else d)})
  (hen: ∀w G h a,Rel ev w G h a-> ∃vs,(execOp a.eval o).run P w= .ok (.enter fn vs) w/\vs.size=ds.length/\ ∀(j:Nat) v d,vs[j]?=some v->ds[j]?=some d->Rv w G h v d):StepL P o ev hpR f eff':=by
 subst he
 intro w G h a K Q hi ht hdead hrel hk
 obtain ⟨vs,he,h1,h2⟩:=hen w G h a hrel
 obtain ⟨w1,w2⟩:=hw.rel (w:=w) (G:=G) (h:=h)
 have hc:=hce w G h (happ h f eff) vs hi (fun i ob hm=>by rw [ht i (by simp [htc];exact ⟨ob,hm⟩),hpre i ob hm]) hdead (fun i=>rfl) (by rw [h1,w1]) (fun j v d hv hd=>w2 j v d hd (fun y hy=>h2 j v y hv hy))
 unfold Oper.wp
 rw [he]
 refine hc.mono ?_
 rintro e w' ⟨v,d',G',rfl,hd',r,i',x'⟩
 rw [hd] at hd';cases hd'
 refine hk v w' G' (fun d'' e''=>?_) i' x'
 cases e''
 split
 ·exact Rv.when_true r
 ·exact r
theorem run_call {w:World} {fn:FuncId} {func:Func} {args:Array Value} (hf:P.funcs[fn]?=some func) (hn:func.name≠ "runtime.NumGoroutine") (hb:func.body.isNone=false):(callFunc fn args).run P w= .ok (.enter fn args) w:=by
 obtain ⟨c,hc⟩: ∃c,func.body=some c:=by cases h:func.body <;>simp_all
 simp [callFunc,hf,hn,hc]
theorem s_call {fn:FuncId} {func:Func} {ys:Array Operand} {xs:List X} {ts:Array TypeId} (hf:P.funcs[fn]?=some func) (hn:func.name≠ "runtime.NumGoroutine") (hb:func.body.isNone=false) (hx:xs? ys.toList=some xs)
  (hk:opE P ev hpR f dr gd g (.call fn xs) K):Sound P ⟨dst,.call {callee:= .value (.func fn),args:=ys,argTypes:=ts},ty,pos,after,gu⟩ ev hpR f gd g K:=by
 simp only [opE] at hk
 obtain ⟨o1,ds,hk1,hl,h1⟩:=evGs_spec hk
 obtain ⟨ds',pre,eff,hw,hce,hpre,hgal,hwr,htc,d,hd,hK⟩:=hk1
 refine ⟨_,_,hK,fun hg hg0=>?_,fun x hx=>by simp only [htc];exact hwr x hx,fun ho hg=>?_⟩
 ·obtain ⟨e1,e2⟩:=hgal hg hg0
  exact ⟨e1,e2,d,by rw [if_pos hg]⟩
 ·subst hg
  refine call_step (gd:=gd) (pre:=pre) (eff:=eff) hw (hce rfl ho) hpre htc hd rfl (fun w G h a hr=>?_)
  obtain ⟨q1,q2⟩:=rel_list hx hl h1 hr rfl ho
  exact ⟨ys.map a.eval,by simp [execOp,resolve,invoke,Deferred.ofValue,Act.eval,run_call hf hn hb],q1,q2⟩
theorem s_callv {fn:Operand} {x:X} {ys:Array Operand} {xs:List X} {ts:Array TypeId} (hy:cvX fn=some x) (hx:xs? ys.toList=some xs)
  (hk:opE P ev hpR f dr gd g (.callv x xs) K):Sound P ⟨dst,.call {callee:= .value fn,args:=ys,argTypes:=ts},ty,pos,after,gu⟩ ev hpR f gd g K:=by
 simp only [opE] at hk
 obtain ⟨o1,d1,hk1,h1⟩:=evG_spec hk
 obtain ⟨o2,ds,hk2,hl,h2⟩:=evGs_spec hk1
 split at hk2
 case h_2=>exact hk2.elim
 rename_i fid a c
 obtain ⟨⟨func,hf,hn,hb⟩,ds',pre,eff,hw,hce,hpre,hgal,hwr,htc,d,hd,hK⟩:=hk2
 refine ⟨_,_,hK,fun hg hg0=>?_,fun x hx=>by simp only [htc];exact hwr x hx,fun ⟨p1,p2⟩ hg=>?_⟩
 ·obtain ⟨e1,e2⟩:=hgal hg hg0
  exact ⟨e1,e2,d,by rw [if_pos hg]⟩
 ·subst hg
  refine call_step (gd:=gd) (pre:=pre) (eff:=eff) hw (hce rfl ⟨p1,p2⟩) hpre htc hd rfl (fun w G h r hr=>?_)
  obtain ⟨q1,q2⟩:=rel_list hx hl h2 hr rfl p2
  have hv:=h1 (fun d' e=>hr fn x d' hy e) rfl p1
  generalize hz:r.eval fn=z at hv
  cases hv with
  | fn e1 e2 e3 e4=>
   rename_i first caps
   refine ⟨first++ys.map r.eval++caps,by simp [execOp,resolve,invoke,Deferred.ofValue,hz,run_call hf hn hb,Result.andThen],by simp at q1 ⊢;omega,fun j v d hv hd=>?_⟩
   by_cases j1:j<a.length
   ·rw [Array.append_assoc,Array.getElem?_append_left (by omega)] at hv
    rw [List.append_assoc,List.getElem?_append_left j1] at hd
    exact e2 j v d hv hd
   ·rw [Array.append_assoc,Array.getElem?_append_right (by omega),e1] at hv
    rw [List.append_assoc,List.getElem?_append_right (by omega)] at hd
    by_cases j2:j-a.length<ds.length
    ·rw [Array.getElem?_append_left (by omega)] at hv
     rw [List.getElem?_append_left j2] at hd
     exact q2 _ v d hv hd
    ·rw [Array.getElem?_append_right (by omega),q1] at hv
     rw [List.getElem?_append_right (by omega)] at hd
     exact e4 _ v d hv hd
theorem run_inv {w:World} {t:TypeId} {m:String} {v:Value} {fn:FuncId} {args:Array Value} (h:MRow P t m fn):(callMethod (.iface t v) m args).run P w= .ok (.enter fn (#[v]++args)) w:=by
 obtain ⟨h,func,hf,hn,hb⟩:=h
 unfold mrow at h
 split at h
 case isFalse=>cases h
 rename_i ha
 simp only [Option.bind_eq_some_iff] at h
 obtain ⟨i,hi,r,hr,h⟩:=h
 split at h
 case h_2=>cases h
 rename_i fn' hp hfn
 simp only [Option.some.injEq] at h
 subst h
 obtain ⟨n,hn'⟩: ∃n,P.types.size+Made.depth=n+1:=⟨P.types.size+(Made.depth-1),by unfold Made.depth;omega⟩
 have hu: ∃d,P.underlying t=some d/\ ∀e,d≠ .pointer e:=by
  unfold isAggB at ha
  split at ha
  ·rename_i fs e;exact ⟨_,e,by simp⟩
  ·rename_i a b e;exact ⟨_,e,by simp⟩
  ·cases ha
 obtain ⟨d,hu,hne⟩:=hu
 have hm:(method (P.types.size+Made.depth) t v m).run P w= .ok (fn',v) w:=by
  rw [hn']
  have hrec: ∀wr,(receiverAt t (.val v) false wr).run P w= .ok v w:=fun wr=>by
   cases d <;>first | exact absurd rfl (hne _) | simp [receiverAt,run_underlying hu,Result.andThen,Place.get]
  simp [method,typeInfo,hi,hr,hp,hfn,follow,hrec,Result.andThen]
 simp [callMethod,hm,Result.andThen,run_call hf hn hb]
theorem s_invk {y:Operand} {m:String} {x:X} {ys:Array Operand} {xs:List X} {ts:Array TypeId} (hy:cvX y=some x) (hx:xs? ys.toList=some xs)
  (hk:opE P ev hpR f dr gd g (.invk m x xs) K):Sound P ⟨dst,.call {callee:= .invoke y m,args:=ys,argTypes:=ts},ty,pos,after,gu⟩ ev hpR f gd g K:=by
 simp only [opE] at hk
 obtain ⟨o1,d1,hk1,h1⟩:=evG_spec hk
 obtain ⟨o2,ds,hk2,hl,h2⟩:=evGs_spec hk1
 split at hk2
 case h_3=>exact hk2.elim
 case h_2=>
  obtain ⟨e1,e2,d,hK⟩:=hk2
  exact ⟨_,_,hK,fun _ _=>⟨rfl,rfl,d,rfl⟩,by simp,fun _ hg=>by rw [e2] at hg;cases hg⟩
 rename_i t es
 obtain ⟨fn,hrow,ds',pre,eff,hw,hce,hpre,hgal,hwr,htc,d,hd,hK⟩:=hk2
 refine ⟨_,_,hK,fun hg hg0=>?_,fun x hx=>by simp only [htc];exact hwr x hx,fun ⟨p1,p2⟩ hg=>?_⟩
 ·obtain ⟨e1,e2⟩:=hgal hg hg0
  exact ⟨e1,e2,d,by rw [if_pos hg]⟩
 ·subst hg
  refine call_step (gd:=gd) (pre:=pre) (eff:=eff) hw (hce rfl ⟨p1,p2⟩) hpre htc hd rfl (fun w G h r hr=>?_)
  obtain ⟨q1,q2⟩:=rel_list hx hl h2 hr rfl p2
  have hv:=h1 (fun d' e=>hr y x d' hy e) rfl p1
  generalize hz:r.eval y=z at hv
  cases hv with
  | e hv=>
   cases hv with
   | ia e1 e2=>
    rename_i cs
    refine ⟨#[.agg cs]++ys.map r.eval,?_,by simp at q1 ⊢;omega,fun j v d hv hd=>?_⟩
    ·have e0:(#[r.eval y]++ys.map r.eval)[0]?=some (r.eval y):=by rw [Array.getElem?_append_left (by simp)];rfl
     have e3:(#[r.eval y]++ys.map r.eval).extract 1 (#[r.eval y]++ys.map r.eval).size=ys.map r.eval:=by
      apply Array.ext'
      simp [List.take_of_length_le]
     show ((resolve r.eval {callee:= .invoke y m,args:=ys,argTypes:=ts} ty>>=fun d=>invoke d.target d.args:Sem Next)).run P w=_
     have e4:(resolve r.eval {callee:= .invoke y m,args:=ys,argTypes:=ts} ty).run P w= .ok {target:= .fn (.method m) #[],args:= #[r.eval y]++ys.map r.eval} w:=rfl
     rw [Sem.run_bind,e4]
     show (invoke (.fn (.method m) #[]) (#[r.eval y]++ys.map r.eval)).run P w=_
     simp only [invoke,e0,e3]
     rw [hz]
     exact run_inv hrow
    cases j with
    | zero=>
     rw [Array.getElem?_append_left (by simp)] at hv
     simp only [List.getElem?_cons_zero,Option.some.injEq] at hd
     have hv:Value.agg cs=v:=by simpa using hv
     subst hv;subst hd
     exact .agg (by simp [e1]) (fun j c hc=>(e2 j c (es.getD j default) hc (by
      have:j<es.length:=by have:=(Array.getElem?_eq_some_iff.1 hc).1;omega
      simp [List.getD,List.getElem?_eq_getElem this])).cell) fun j c d hc hd=>by
       simp only [List.getElem?_map,Option.map_eq_some_iff] at hd
       obtain ⟨y,hy,rfl⟩:=hd
       exact .e (e2 j c y hc hy)
    | succ j=>
     rw [Array.getElem?_append_right (by simp)] at hv
     exact q2 j v d (by simpa using hv) (by simpa using hd)
theorem map_alloc {w:World} {G:Gh} {h:Hp} {f:Nat} (hi:Inv w G h) (hd:h f= .dead):
  Inv (w.alloc (.map #[] 0)) (G.new w.heap.size (fun _=>False) f) (fun i=>if i=f then .smap [] else h i)/\Ext w G h (w.alloc (.map #[] 0)) (G.new w.heap.size (fun _=>False) f) (fun i=>if i=f then .smap [] else h i):=by
 have hb: ∀i,i≠f->(G.new w.heap.size (fun _=>False) f).blk i=G.blk i:=fun i e=>by simp [Gh.new,e]
 have hbf:(G.new w.heap.size (fun _=>False) f).blk f=w.heap.size:=by simp [Gh.new]
 have hold: ∀b,b<w.heap.size->(w.alloc (.map #[] 0)).heap[b]?=w.heap[b]?:=fun b e=>(MapKept.heap_alloc w _).2 b e
 have nf: ∀ {i ob},h i=ob->ob≠ .dead->i≠f:=fun e1 e2 e3=>e2 (by rw [<-e1,e3,hd])
 have hx:=hx_one (h:=h) (h':=fun i=>if i=f then .smap [] else h i) (i:=f) (fun j q=>if_neg q) (by rw [hd];rfl) (by simp [O.plain])
 have ext:Ext w G h (w.alloc (.map #[] 0)) (G.new w.heap.size (fun _=>False) f) (fun i=>if i=f then .smap [] else h i):= {
  os:=rfl
  sgm:=fun _ _ e=>e
  idm:=fun j m e=>⟨m,hx.1 j m e⟩
  rvm:=fun j R e=>⟨⟨R,hx.2.1 j R e⟩,rfl⟩
  rbnew:=fun j R e b hb=> .inl ⟨j,R,hx.2.2.2 j R e,hb⟩
  idn:=fun j m e=>⟨j,m,hx.2.2.1 j m e⟩
  sgn:=fun _=>rfl
  sgw:=fun _ _ e=> .inl e
  tape:=rfl
  output:=rfl
  size:=by simp
  pub:=fun b o p=>⟨.inl p,World.cell?_alloc_lt _ _ _ (hi.publt b o p)⟩
  box:=fun i ds e=>by
   have:=nf e (by simp)
   exact ⟨⟨ds,by rw [if_neg this,e],rfl⟩,hb i this⟩
  tok:=fun i n k e=>by
   have:=nf e (by simp)
   exact ⟨n,by rw [if_neg this,e],Nat.le_refl _,fun _ hn=>⟨hb i this,by simp only [World.shape?];rw [hold _ (hi.lt i (by rw [e];simp [O.has,hn]))]⟩⟩
  others:=fun b hb' _ _=>hold b hb'
  new:=fun i hi'=>by
   by_cases e:i=f
   ·subst e;exact .inr (by rw [hbf];exact Nat.le_refl _)
   ·simp only [if_neg e] at hi';exact .inl ⟨i,hi',hb i e⟩
  pubnew:=fun b o p=>by
   rcases p with p | ⟨_,p⟩
   ·exact .inl p
   ·exact p.elim
  vec:=fun i b k ds e=>by
   have:=nf e (by simp)
   exact .inr ⟨ds,by rw [if_neg this,e],Nat.le_refl _,fun hb'=>⟨hb i this,by simp only [World.shape?];rw [hold _ (hi.lt i (by rw [e];exact hb'))]⟩⟩
  gone:=fun i e=>by
   have:=nf e (by simp)
   rw [if_neg this,e]
  smap:=fun i l e=>by
   have:=nf e (by simp)
   exact ⟨⟨l,by rw [if_neg this,e]⟩,hb i this⟩}
 have pb: ∀i o,i≠f->(¬G.pub (G.blk i) o)-> ¬(G.new w.heap.size (fun _=>False) f).pub ((G.new w.heap.size (fun _=>False) f).blk i) o:=fun i o e np p=>by
  rw [hb i e] at p
  rcases p with p | ⟨_,p⟩
  ·exact np p
  ·exact p
 refine ⟨{x:=hi.x.step ext.size rfl rfl rfl hx.2.2.1 hx.2.2.2 ext.new ext.pubnew (fun b l _=>hold b l),lt:=fun i hi'=>?_,inj:=fun i j h1 h2 e=>?_,publt:=fun b o p=>?_,box:=fun i ds e=>?_,front:=fun i n k e hn=>?_,vec:=fun i b k ds e=>?_,smap:=fun i l e=>?_},ext⟩
 ·by_cases e:i=f
  ·subst e;rw [hbf];simp
  ·rw [if_neg e] at hi';rw [hb i e];have:=hi.lt i hi';simp;omega
 ·by_cases e1:i=f <;>by_cases e2:j=f
  ·rw [e1,e2]
  ·subst e1;rw [hbf,hb j e2] at e;rw [if_neg e2] at h2;have:=hi.lt j h2;omega
  ·subst e2;rw [hbf,hb i e1] at e;rw [if_neg e1] at h1;have:=hi.lt i h1;omega
  ·rw [hb i e1,hb j e2] at e;rw [if_neg e1] at h1;rw [if_neg e2] at h2;exact hi.inj i j h1 h2 e
 ·rcases p with p | ⟨_,p⟩
  ·have:=hi.publt b o p;simp;omega
  ·exact p.elim
 ·by_cases e1:i=f
  ·rw [if_pos e1] at e;cases e
  ·rw [if_neg e1] at e
   obtain ⟨p1,cs',T',p2,p3,p4⟩:=hi.box i ds e
   refine ⟨fun o=>pb i o e1 (p1 o),cs',T',by rw [hb i e1,hold _ (hi.lt i (by rw [e];rfl))];exact p2,p3,fun j c d a b=>⟨(p4 j c d a b).1.ext ext,(p4 j c d a b).2⟩⟩
 ·by_cases e1:i=f
  ·rw [if_pos e1] at e;cases e
  ·rw [if_neg e1] at e
   obtain ⟨⟨cs',T',p2⟩,p3⟩:=hi.front i n k e hn
   exact ⟨⟨cs',T',by rw [hb i e1,hold _ (hi.lt i (by rw [e];simp [O.has,hn]))];exact p2⟩,fun o ho=>pb i o e1 (p3 o ho)⟩
 ·by_cases e1:i=f
  ·rw [if_pos e1] at e;cases e
  ·rw [if_neg e1] at e
   obtain ⟨p0,p⟩:=hi.vec i b k ds e
   refine ⟨p0,fun hb'=>?_⟩
   obtain ⟨p1,cs',T',p2,p3,p4⟩:=p hb'
   exact ⟨fun o=>pb i o e1 (p1 o),cs',T',by rw [hb i e1,hold _ (hi.lt i (by rw [e];exact hb'))];exact p2,p3,fun j c d a b=>⟨(p4 j c d a b).1.ext ext,(p4 j c d a b).2⟩⟩
 ·by_cases e1:i=f
  ·rw [if_pos e1] at e;cases e
   refine ⟨fun o p=>?_,#[],0,?_,rfl,fun j e p a _=>by simp at a⟩
   ·rw [e1,hbf] at p
    rcases p with p | ⟨_,p⟩
    ·have:=hi.publt _ o p;omega
    ·exact p
   ·rw [e1,hbf];exact (MapKept.heap_alloc w _).1
  ·rw [if_neg e1] at e
   obtain ⟨p1,es,ck,p2,p3,p4⟩:=hi.smap i l e
   exact ⟨fun o=>pb i o e1 (p1 o),es,ck,by rw [hb i e1,hold _ (hi.lt i (by rw [e];rfl))];exact p2,p3,fun j e p a b=>⟨(p4 j e p a b).1,(p4 j e p a b).2.mono ext.pub ext.sgm⟩⟩
theorem map_write {w:World} {G:Gh} {h:Hp} {i ck:Nat} {l l':List (List UInt8×E)} {es:Array MapEntry} (hi:Inv w G h) (hb:h i= .smap l) (hs:es.size=l'.length)
  (hr: ∀(j:Nat) e p,es[j]?=some e->l'[j]?=some p->e.key= .string ⟨⟨p.1⟩⟩/\RvE w G e.val p.2):
  Inv {w with heap:=w.heap.setIfInBounds (G.blk i) (.map es ck)} G (fun j=>if j=i then .smap l' else h j)/\Ext w G h {w with heap:=w.heap.setIfInBounds (G.blk i) (.map es ck)} G (fun j=>if j=i then .smap l' else h j):=by
 obtain ⟨hnp,es0,ck0,hc,_,_⟩:=hi.smap i l hb
 have hset:=MapKept.heap_set (o':= .map es ck) hc
 have hrow:=hset.1
 have hoth:=hset.2
 have hib:(h i).has=true:=by rw [hb];rfl
 have hne: ∀j,(h j).has=true->j≠i->G.blk j≠G.blk i:=fun j hj e e'=>e (hi.inj j i hj hib e')
 have ni: ∀ {j ob},h j=ob->(∀l,ob≠ .smap l)->j≠i:=fun e1 e2 e3=>e2 l (by rw [<-e1,e3,hb])
 have hx:=hx_one (h:=h) (h':=fun j=>if j=i then .smap l' else h j) (i:=i) (fun j q=>if_neg q) (by rw [hb];rfl) (by simp [O.plain])
 have ext:Ext w G h {w with heap:=w.heap.setIfInBounds (G.blk i) (.map es ck)} G (fun j=>if j=i then .smap l' else h j):= {
  os:=rfl
  sgm:=fun _ _ e=>e
  idm:=fun j m e=>⟨m,hx.1 j m e⟩
  rvm:=fun j R e=>⟨⟨R,hx.2.1 j R e⟩,rfl⟩
  rbnew:=fun j R e b hb=> .inl ⟨j,R,hx.2.2.2 j R e,hb⟩
  idn:=fun j m e=>⟨j,m,hx.2.2.1 j m e⟩
  sgn:=fun _=>rfl
  sgw:=fun _ _ e=> .inl e
  tape:=rfl
  output:=rfl
  size:=by simp
  pub:=fun b o p=>⟨p,World.cell?_of_block (hoth b (fun e=>hnp o (e▸p)))⟩
  box:=fun j ds e=>by
   have:=ni e (by simp)
   exact ⟨⟨ds,by rw [if_neg this,e],rfl⟩,rfl⟩
  tok:=fun j n k e=>by
   have:=ni e (by simp)
   exact ⟨n,by rw [if_neg this,e],Nat.le_refl _,fun _ hn=>⟨rfl,by simp only [World.shape?];rw [hoth _ (hne j (by rw [e];simp [O.has,hn]) this)]⟩⟩
  others:=fun b hb' ho _=>hoth b (fun e=>ho i hib e.symm)
  new:=fun j hj=>by
   by_cases e:j=i
   ·subst e;exact .inl ⟨j,hib,rfl⟩
   ·simp only [if_neg e] at hj;exact .inl ⟨j,hj,rfl⟩
  pubnew:=fun b o p=> .inl p
  vec:=fun j b k ds e=>by
   have:=ni e (by simp)
   exact .inr ⟨ds,by rw [if_neg this,e],Nat.le_refl _,fun hb'=>⟨rfl,by simp only [World.shape?];rw [hoth _ (hne j (by rw [e];exact hb') this)]⟩⟩
  gone:=fun j e=>by
   have:=ni e (by simp)
   rw [if_neg this,e]
  smap:=fun j l2 e=>by
   by_cases e2:j=i
   ·exact ⟨⟨l',if_pos e2⟩,rfl⟩
   ·exact ⟨⟨l2,by rw [if_neg e2,e]⟩,rfl⟩}
 have hhas: ∀j,O.has (if j=i then .smap l' else h j)=true->(h j).has=true:=fun j hj=>by
  by_cases e:j=i
  ·rw [e];exact hib
  ·rw [if_neg e] at hj;exact hj
 refine ⟨{x:=hi.x.step ext.size rfl rfl rfl hx.2.2.1 hx.2.2.2 ext.new ext.pubnew (fun b _ q=>hoth b (fun e=>q i hib e.symm)),lt:=fun j hj=>(by have:=hi.lt j (hhas j hj);simpa using this),inj:=fun a b p q e=>hi.inj a b (hhas a p) (hhas b q) e,publt:=fun b o p=>(by have:=hi.publt b o p;simpa using this),box:=fun j ds e=>?_,front:=fun j n k e hn=>?_,vec:=fun j b k ds e=>?_,smap:=fun j l2 e=>?_},ext⟩
 ·by_cases e1:j=i
  ·rw [if_pos e1] at e;cases e
  ·rw [if_neg e1] at e
   obtain ⟨p1,cs',T',p2,p3,p4⟩:=hi.box j ds e
   exact ⟨p1,cs',T',(hoth _ (hne j (by rw [e];rfl) e1)).trans p2,p3,fun j c d a b=>⟨(p4 j c d a b).1.ext ext,(p4 j c d a b).2⟩⟩
 ·by_cases e1:j=i
  ·rw [if_pos e1] at e;cases e
  ·rw [if_neg e1] at e
   obtain ⟨⟨cs',T',p2⟩,p3⟩:=hi.front j n k e hn
   exact ⟨⟨cs',T',(hoth _ (hne j (by rw [e];simp [O.has,hn]) e1)).trans p2⟩,p3⟩
 ·by_cases e1:j=i
  ·rw [if_pos e1] at e;cases e
  ·rw [if_neg e1] at e
   obtain ⟨p0,p⟩:=hi.vec j b k ds e
   refine ⟨p0,fun hb'=>?_⟩
   obtain ⟨p1,cs',T',p2,p3,p4⟩:=p hb'
   exact ⟨p1,cs',T',(hoth _ (hne j (by rw [e];exact hb') e1)).trans p2,p3,fun j c d a b=>⟨(p4 j c d a b).1.ext ext,(p4 j c d a b).2⟩⟩
 ·by_cases e1:j=i
  ·rw [if_pos e1] at e;cases e
   subst e1
   exact ⟨hnp,es,ck,hrow,hs,fun j e p a b=>⟨(hr j e p a b).1,(hr j e p a b).2.mono ext.pub ext.sgm⟩⟩
  ·rw [if_neg e1] at e
   obtain ⟨p1,es2,ck2,p2,p3,p4⟩:=hi.smap j l2 e
   exact ⟨p1,es2,ck2,(hoth _ (hne j (by rw [e];rfl) e1)).trans p2,p3,fun j e p a b=>⟨(p4 j e p a b).1,(p4 j e p a b).2.mono ext.pub ext.sgm⟩⟩
theorem rv_mp {w G h x} {i:Nat} (r:Rv w G h x (.mp i)):x= .map (some (G.blk i))/\ ∃l,h i= .smap l:=by
 cases r with | mp hb=>exact ⟨rfl,_,hb⟩
theorem find_list {w:World} {G:Gh} {k:List UInt8} : ∀(es:List MapEntry) (l:List (List UInt8×E)) (i:Nat),es.length=l.length->
  (∀(j:Nat) e p,es[j]?=some e->l[j]?=some p->e.key= .string ⟨⟨p.1⟩⟩/\RvE w G e.val p.2)->
  (Instr.findNow .string (.string ⟨⟨k⟩⟩) es i=some none/\mlook l k=none/\ ∀v,mset l k v=l++ [(k,v)])\/
  ∃j e v0,Instr.findNow .string (.string ⟨⟨k⟩⟩) es i=some (some (i+j,e.val))/\es[j]?=some e/\l[j]?=some (k,v0)/\mlook l k=some v0/\ ∀v,mset l k v=l.set j (k,v)
 | [], [],_,_,_=> .inl ⟨rfl,rfl,fun _=>rfl⟩
 | [],_::_,_,h,_=>by simp at h
 | _::_, [],_,h,_=>by simp at h
 | e::es,p::l,i,h,hr=>by
  obtain ⟨h1,h2⟩:=hr 0 e p rfl rfl
  by_cases hk:p.1=k
  ·refine .inr ⟨0,e,p.2,?_,rfl,by rw [<-hk];rfl,by simp [mlook,hk],fun v=>by simp [mset,hk]⟩
   have:Instr.sameNow .string (.string ⟨⟨k⟩⟩) e.key=some true:=by
    rw [h1,hk]
    simp only [Instr.sameNow]
    rw [(MapKept.bytes_beq _ _).2 rfl]
   simp [Instr.findNow,this]
  ·have:Instr.sameNow .string (.string ⟨⟨k⟩⟩) e.key=some false:=by
    rw [h1]
    simp only [Instr.sameNow]
    congr 1
    rw [Bool.eq_false_iff]
    intro e
    have:=(MapKept.bytes_beq _ _).1 e
    simp only [ByteArray.mk.injEq,Array.mk.injEq] at this
    exact hk this.symm
   rcases find_list (k:=k) es l (i+1) (by simpa using h) (fun j e p a b=>hr (j+1) e p (by simpa using a) (by simpa using b)) with ⟨q1,q2,q3⟩ | ⟨j,e',v0,q1,q2,q3,q4,q5⟩
   ·exact .inl ⟨by simp [Instr.findNow,this,q1],by simp [mlook,hk,q2],fun v=>by simp [mset,hk,q3 v]⟩
   ·exact .inr ⟨j+1,e',v0,by simp [Instr.findNow,this,q1];omega,by simpa using q2,by simpa using q3,by simp [mlook,hk,q4],fun v=>by simp [mset,hk,q5 v]⟩
theorem s_mkm {t:TypeId} (hk:opE P ev hpR f dr gd g .mkm K):Sound P ⟨dst,.makeMap t none,ty,pos,after,gu⟩ ev hpR f gd g K:=by
 simp only [opE] at hk
 obtain ⟨hgd,hk⟩:=hk
 refine Sound.al hgd hk fun _ hg w G h r hi hd hr=>?_
 obtain ⟨i1,x1⟩:=map_alloc hi hd
 refine ⟨.map (some w.heap.size),_,_,exec_v (w':=w.alloc (.map #[] 0)) (by simp [Instr.makeMap,Result.andThen]),i1,x1,?_⟩
 have:=Rv.mp (w:=w.alloc (.map #[] 0)) (G:=G.new w.heap.size (fun _=>False) f) (h:=fun i=>if i=f then O.smap [] else h i) (i:=f) (l:= []) (if_pos rfl)
 simpa [Gh.new] using this
theorem s_mget {t k e:TypeId} {ok:Bool} {z:Value} {yx yi:Operand} {x i:X} (hx:cvX yx=some x) (hy:cvX yi=some i) (ht:P.underlying t=some (.map k e)) (hks:P.underlying k=some .string) (hz:zero1? P e=some z)
  (hk:opE P ev hpR f dr gd g (.mget ok (zeroE z) x i) K):Sound P ⟨dst,.lookup t yx yi ok,ty,pos,after,gu⟩ ev hpR f gd g K:=by
 simp only [opE] at hk
 obtain ⟨o1,d1,hk1,h1⟩:=evG_spec hk
 obtain ⟨o2,d2,hk2,h2⟩:=evG_spec hk1
 split at hk2
 case h_2=>exact hk2.elim
 rename_i m s
 split at hk2
 case h_2=>exact hk2.elim
 rename_i l hl
 have hz':(∀w,(zeroValue e).run P w= .ok z w)/\okZ z=true:=by
  simp only [zero1?,Option.bind_eq_some_iff] at hz
  obtain ⟨z',⟨inf,hi,hv⟩,hz⟩:=hz
  split at hz
  ·cases hz
   exact ⟨fun w=>by simp [zeroValue,run_typeInfo _ hi,Result.andThen,hv],by assumption⟩
  ·cases hz
 have run: ∀ {w:World} {G:Gh} {h:Hp} {r:Act},Inv w G h->h m= .smap l->r.eval yx= .map (some (G.blk m))->r.eval yi= .string s->
   (mlook l s.data.toList=none/\(Instr.lookup t (r.eval yx) (r.eval yi) ok).run P w= .ok (if ok then .tuple #[z,.bool false] else z) w)\/
   ∃v v0,mlook l s.data.toList=some v0/\RvE w G v v0/\(Instr.lookup t (r.eval yx) (r.eval yi) ok).run P w= .ok (if ok then .tuple #[v,.bool true] else v) w:=by
  intro w G h r hi hm e1 e2
  obtain ⟨_,es,ck,hc,hs,hr⟩:=hi.smap m l hm
  rw [e1,e2]
  rcases find_list (k:=s.data.toList) es.toList l 0 (by simpa using hs) (fun j e p a b=>hr j e p (by simpa using a) b) with ⟨q1,q2,_⟩ | ⟨j,e',v0,q1,q2,q3,q4,_⟩
  ·refine .inl ⟨q2,?_⟩
   have hf:=MapKept.run_findKey (P:=P) (w:=w) hks q1
   have hck:=MapKept.run_checkKey (P:=P) (w:=w) (k:= .string s) hks trivial es.isEmpty 9999
   simp [Instr.lookup,run_underlying ht,MapKept.run_getObj_map hc,hck,hf,hz'.1,Result.andThen]
  ·refine .inr ⟨e'.val,v0,q4,(hr j e' _ (by simpa using q2) q3).2,?_⟩
   have hf:=MapKept.run_findKey (P:=P) (w:=w) hks q1
   have hck:=MapKept.run_checkKey (P:=P) (w:=w) (k:= .string s) hks trivial es.isEmpty 9999
   simp [Instr.lookup,run_underlying ht,MapKept.run_getObj_map hc,hck,hf,Result.andThen]
 split at hk2
 ·rename_i v0 hv0
  refine Sound.pure (tc:= [m]) hk2 fun ⟨p1,p2⟩ hg w G h r hi ht hr=>?_
  obtain ⟨e1,_⟩:=rv_mp (h1 (fun d' e=>hr yx x d' hx e) hg p1)
  obtain ⟨e2,_⟩:=rv_v (h2 (fun d' e=>hr yi i d' hy e) hg p2)
  rcases run hi (by rw [ht m (by simp),hl]) e1 e2 with ⟨q,_⟩ | ⟨v,v1,q1,q2,q3⟩
  ·rw [hv0] at q;cases q
  ·rw [hv0] at q1;cases q1
   refine ⟨_,exec_v (w':=w) q3,?_⟩
   cases ok with
   | false=>exact .e q2
   | true=>
    refine .tup rfl fun j c d hc hd=>?_
    match j with
    | 0=>simp at hc hd;subst hc;subst hd;exact .e q2
    | 1=>simp at hc hd;subst hc;subst hd;exact rv_mkbool _
    | j+2=>simp at hc
 ·rename_i hv0
  refine Sound.pure (tc:= [m]) hk2 fun ⟨p1,p2⟩ hg w G h r hi ht hr=>?_
  obtain ⟨e1,_⟩:=rv_mp (h1 (fun d' e=>hr yx x d' hx e) hg p1)
  obtain ⟨e2,_⟩:=rv_v (h2 (fun d' e=>hr yi i d' hy e) hg p2)
  rcases run hi (by rw [ht m (by simp),hl]) e1 e2 with ⟨_,q3⟩ | ⟨v,v1,q1,_⟩
  ·have q2:RvE w G z (zeroE z):=(zeroE_rel hz'.2).1
   refine ⟨_,exec_v (w':=w) q3,?_⟩
   cases ok with
   | false=>exact .e q2
   | true=>
    refine .tup rfl fun j c d hc hd=>?_
    match j with
    | 0=>simp at hc hd;subst hc;subst hd;exact .e q2
    | 1=>simp at hc hd;subst hc;subst hd;exact rv_mkbool _
    | j+2=>simp at hc
  ·rw [hv0] at q1;cases q1
theorem s_mput {t k e:TypeId} {ym yk yx:Operand} {m y x:X} (hm:cvX ym=some m) (hy:cvX yk=some y) (hx:cvX yx=some x) (ht:P.underlying t=some (.map k e)) (hks:P.underlying k=some .string)
  (hk:opE P ev hpR f dr gd g (.mput m y x) K):Sound P ⟨dst,.mapUpdate t ym yk yx,ty,pos,after,gu⟩ ev hpR f gd g K:=by
 simp only [opE] at hk
 obtain ⟨hgd,hk⟩:=hk
 obtain ⟨o1,d1,hk1,h1⟩:=evG_spec hk
 obtain ⟨o2,d2,hk2,h2⟩:=evG_spec hk1
 obtain ⟨o3,d3,hk3,h3⟩:=evG_spec hk2
 split at hk3
 case h_2=>exact hk3.elim
 rename_i i s v hv
 split at hk3
 case h_2=>exact hk3.elim
 rename_i l hl
 refine ⟨_,_,hk3,fun hg _=>(by rw [hgd] at hg;cases hg),by simp,fun ⟨p1,p2,p3⟩ hg=>?_⟩
 intro w G h r K Q hi htc _ hr hK
 have hb:h i= .smap l:=by rw [htc i (by simp),hl]
 obtain ⟨e1,_⟩:=rv_mp (h1 (fun d' e=>hr ym m d' hm e) hg p1)
 obtain ⟨e2,_⟩:=rv_v (h2 (fun d' e=>hr yk y d' hy e) hg p2)
 have e3:=toE_rel hv (h3 (fun d' e=>hr yx x d' hx e) hg p3)
 rw [happ_wr] at hK
 obtain ⟨_,es,ck,hc,hs,hrr⟩:=hi.smap i l hb
 have hck:=MapKept.run_checkKey (P:=P) (w:=w) (k:= .string s) hks trivial false 9999
 rcases find_list (k:=s.data.toList) es.toList l 0 (by simpa using hs) (fun j e p a b=>hrr j e p (by simpa using a) b) with ⟨q1,_,q3⟩ | ⟨j,e',v0,q1,q2,q3,_,q5⟩
 ·have hf:=MapKept.run_findKey (P:=P) (w:=w) hks q1
  obtain ⟨i1,x1⟩:=map_write (ck:=ck+1) (es:=es.push {key:= .string s,val:=r.eval yx,born:=ck}) hi hb (l':=mset l s.data.toList v) (by rw [q3];simp [hs]) (fun j e p a b=>by
   rw [q3] at b
   by_cases hj:j<l.length
   ·rw [List.getElem?_append_left hj] at b
    rw [Array.getElem?_push_lt (by omega)] at a
    exact hrr j e p (by rw [<-a,Array.getElem?_eq_getElem]) b
   ·rw [List.getElem?_append_right (by omega)] at b
    have hjl:j-l.length=0:=by have:=(List.getElem?_eq_some_iff.1 b).1;simpa using this
    have hj2:j=es.size:=by omega
    subst hj2
    rw [hjl] at b
    simp at a b
    subst a;subst b
    exact ⟨rfl,e3⟩)
  have hrun:(execOp r.eval ⟨dst,.mapUpdate t ym yk yx,ty,pos,after,gu⟩).run P w= .ok .skip {w with heap:=w.heap.setIfInBounds (G.blk i) (.map (es.push {key:= .string s,val:=r.eval yx,born:=ck}) (ck+1))} :=by
   simp [execOp,Instr.mapUpdate,run_underlying ht,e1,e2,MapKept.run_getObj_map hc,hck,hf,Result.andThen,MapKept.run_setObj_map _ hc]
  unfold Oper.wp
  rw [hrun]
  exact hK undef _ G (fun d' e'=>by cases e') i1 x1
 ·have hf:=MapKept.run_findKey (P:=P) (w:=w) hks q1
  have hej:es[j]?=some e':=by simpa using q2
  have hkey:e'.key= .string s:=(hrr j e' _ hej q3).1
  obtain ⟨i1,x1⟩:=map_write (ck:=ck) (es:=es.modify j fun e=> {e with key:= .string s,val:=r.eval yx}) hi hb (l':=mset l s.data.toList v) (by rw [q5];simp [hs]) (fun j' e p a b=>by
   rw [q5] at b
   rw [Array.getElem?_modify] at a
   by_cases hj:j=j'
   ·subst hj
    rw [if_pos rfl,hej] at a
    rw [List.getElem?_set_self (by rw [<-hs];exact (Array.getElem?_eq_some_iff.1 hej).1)] at b
    simp at a b
    subst a;subst b
    exact ⟨rfl,e3⟩
   ·rw [if_neg hj] at a
    rw [List.getElem?_set_ne hj] at b
    exact hrr j' e p a b)
  have hsame:Instr.sameBits 10000 (.string s) (.string s)=true:=(MapKept.bytes_beq _ _).2 rfl
  have hrun:(execOp r.eval ⟨dst,.mapUpdate t ym yk yx,ty,pos,after,gu⟩).run P w= .ok .skip {w with heap:=w.heap.setIfInBounds (G.blk i) (.map (es.modify j fun e=> {e with key:= .string s,val:=r.eval yx}) ck)} :=by
   simp [execOp,Instr.mapUpdate,run_underlying ht,e1,e2,MapKept.run_getObj_map hc,hck,hf,Result.andThen,Instr.keyThatStays,hej,hkey,hsame,MapKept.run_setObj_map _ hc]
  unfold Oper.wp
  rw [hrun]
  exact hK undef _ G (fun d' e'=>by cases e') i1 x1
theorem get_prep {x:Option I} (h:opE P ev hpR f dr gd g (x.getD .bad) K): ∃i,x=some i/\opE P ev hpR f dr gd g i K:=by
 cases x with
 | none=>simp [opE] at h
 | some i=>exact ⟨i,rfl,h⟩
theorem zeros_spec {t:TypeId} {z:List Value} (h:zeros? P t=some z):zerosOf P t=some z/\z.all okZ=true:=by
 simp only [zeros?,Option.bind_eq_some_iff] at h
 obtain ⟨z',h1,h2⟩:=h
 split at h2
 ·cases h2;exact ⟨h1,by assumption⟩
 ·cases h2
theorem op_sound {o:Oper} (hf:dr=false-> ∃w G h a,Rel ev w G h a) (h:opE P ev hpR f dr gd g (prepI P o.op) K):Sound P o ev hpR f gd g K:=by
 obtain ⟨dst,op,ty,pos,after,gu⟩:=o
 obtain ⟨i,hi,h⟩:=get_prep h
 simp only at hi
 cases op
 case move x=>
  simp only [prepO,Option.map_eq_some_iff] at hi
  obtain ⟨x,hx,rfl⟩:=hi
  exact s_mov hx (.inl rfl) h
 case assign x=>
  simp only [prepO,Option.map_eq_some_iff] at hi
  obtain ⟨x,hx,rfl⟩:=hi
  exact s_mov hx (.inr rfl) h
 case pick a b c=>
  simp only [prepO,Option.bind_eq_some_iff,Option.map_eq_some_iff] at hi
  obtain ⟨_,h1,_,h2,_,h3,rfl⟩:=hi
  exact s_pick h1 h2 h3 h
 case alloc t=>
  simp only [prepO,Option.map_eq_some_iff] at hi
  obtain ⟨z,hz,rfl⟩:=hi
  obtain ⟨h1,h2⟩:=zeros_spec hz
  exact s_alloc h1 h2 h
 case box t x=>
  simp only [prepO,Option.map_eq_some_iff] at hi
  obtain ⟨x,hx,rfl⟩:=hi
  exact s_box hx h
 case build t ps=>
  simp only [prepO,Option.bind_eq_some_iff] at hi
  obtain ⟨z,hz,xs,hps,hi⟩:=hi
  obtain ⟨h1,h2⟩:=zeros_spec hz
  split at hi
  ·rename_i fs hu
   split at hi
   ·rename_i hfs
    simp only [Option.map_eq_some_iff] at hi
    obtain ⟨pl,hpl,rfl⟩:=hi
    exact s_build h1 h2 hps (.inl ⟨fs,hu,hpl,fun fd hfd=>Option.isSome_iff_exists.1 (List.all_eq_true.1 hfs fd hfd)⟩) h
   ·cases hi
  ·rename_i n e hu
   split at hi
   ·rename_i he
    cases hi
    exact s_build h1 h2 hps (.inr ⟨n,e,hu,rfl,Option.isSome_iff_exists.1 he⟩) h
   ·cases hi
  ·cases hi
 case buildSlice t n ps=>
  simp only [prepO,Option.bind_eq_some_iff] at hi
  obtain ⟨xs,hps,hi⟩:=hi
  split at hi
  ·rename_i e hu
   simp only [Option.bind_eq_some_iff] at hi
   obtain ⟨z,hz,hi⟩:=hi
   obtain ⟨h1,h2⟩:=zeros_spec hz
   split at hi
   ·rename_i hc
    cases hi
    exact s_lit hu h1 h2 hps rfl hc.1 hc.2.1 hc.2.2 h
   ·cases hi
  ·cases hi
 case load t x=>
  simp only [prepO,Option.bind_eq_some_iff,Option.map_eq_some_iff] at hi
  obtain ⟨x,hx,d,hd,rfl⟩:=hi
  split at h
  ·rename_i ha;exact s_load hx ⟨d,hd⟩ ha (fun _=>rfl) h
  ·rename_i ha;exact s_load hx ⟨d,hd⟩ (by simpa using ha) (fun e=>by cases e) h
 case store t a x=>
  simp only [prepO,Option.bind_eq_some_iff,Option.map_eq_some_iff] at hi
  obtain ⟨_,h1,_,h2,i,h3,rfl⟩:=hi
  exact s_store h1 h2 ⟨i,h3⟩ rfl h
 case nilCheck x=>
  simp only [prepO,Option.map_eq_some_iff] at hi
  obtain ⟨x,hx,rfl⟩:=hi
  exact s_nilc hx h
 case binOp op t x y t'=>
  simp only [prepO,Option.bind_eq_some_iff] at hi
  obtain ⟨_,h1,_,h2,hi⟩:=hi
  split at hi
  ·cases hi;exact s_binb h1 h2 (by assumption) h
  ·split at hi
   ·cases hi;exact s_isnil h1 h2 (by assumption) (.inl ⟨rfl,rfl⟩) h
   ·cases hi;exact s_isnil h1 h2 (by assumption) (.inr ⟨rfl,rfl⟩) h
   ·cases hi
  ·split at hi
   ·cases hi;exact s_isnilI h1 h2 (by assumption) (.inl ⟨rfl,rfl⟩) h
   ·cases hi;exact s_isnilI h1 h2 (by assumption) (.inr ⟨rfl,rfl⟩) h
   ·cases hi
  ·cases hi;exact s_bin h1 h2 h
  ·cases hi;exact s_bin h1 h2 h
  ·split at hi
   ·rename_i hc
    split at hi
    ·cases hi;exact s_binst h1 h2 (by assumption) hc (.inl ⟨rfl,rfl⟩) h
    ·cases hi;exact s_binst h1 h2 (by assumption) hc (.inr ⟨rfl,rfl⟩) h
    ·cases hi
   ·cases hi
  ·cases hi
 case unOp op t x=>
  simp only [prepO,Option.map_eq_some_iff] at hi
  obtain ⟨x,hx,rfl⟩:=hi
  exact s_un hx h
 case convert s d x=>
  simp only [prepO,Option.bind_eq_some_iff] at hi
  obtain ⟨x,hx,hi⟩:=hi
  split at hi
  ·cases hi;exact s_convi hx (by assumption) (by assumption) h
  ·cases hi;exact s_convss hx (by assumption) (by assumption) h
  ·split at hi
   ·cases hi;exact s_convsb hx (by assumption) (by assumption) (by assumption) h
   ·cases hi
  ·split at hi
   ·cases hi;exact s_convbs hx (by assumption) (by assumption) (by assumption) h
   ·cases hi
  ·cases hi
 case makeInterface t x=>
  simp only [prepO,Option.bind_eq_some_iff] at hi
  obtain ⟨x,hx,hi⟩:=hi
  split at hi
  ·cases hi
  ·cases hi
  ·rename_i d hne hd
   cases hi
   exact s_mki hx ⟨d,hd,fun ms e=>hne ms e⟩ h
 case makeFunc fn a c=>
  simp only [prepO,Option.bind_eq_some_iff,Option.map_eq_some_iff] at hi
  obtain ⟨_,h1,_,h2,rfl⟩:=hi
  exact s_mkf h1 h2 h
 case makeSlice t l c=>
  simp only [prepO,Option.bind_eq_some_iff] at hi
  obtain ⟨l',hl,hi⟩:=hi
  split at hi
  ·rename_i e hu
   simp only [Option.bind_eq_some_iff] at hi
   obtain ⟨inf,hinf,z,hz,hi⟩:=hi
   obtain ⟨h1,h2⟩:=zeros_spec hz
   split at hi
   ·rename_i hc
    cases hi
    exact s_mks hu hinf hc.2.2.1 h1 h2 hc.1 hc.2.1 hl hc.2.2.2 h
   ·cases hi
  ·cases hi
 case slice t x lo hi' mx=>
  simp only [prepO,Option.bind_eq_some_iff] at hi
  obtain ⟨_,h1,_,h2,_,h3,hi⟩:=hi
  split at hi
  ·cases hi;exact s_slstr h1 h2 h3 (by assumption) h
  ·split at hi
   ·cases hi;exact s_slice h1 h2 h3 (by assumption) rfl (by assumption) h
   ·cases hi
  ·cases hi
 case fieldAddr t x fi=>
  simp only [prepO,Option.bind_eq_some_iff] at hi
  obtain ⟨x,hx,hi⟩:=hi
  split at hi
  ·simp only [Option.bind_eq_some_iff] at hi
   obtain ⟨fd,hfd,hi⟩:=hi
   split at hi
   ·cases hi;exact s_fadr hx (by assumption) hfd (by assumption) h
   ·cases hi
  ·cases hi
 case indexAddr t x i=>
  simp only [prepO,Option.bind_eq_some_iff] at hi
  obtain ⟨_,h1,_,h2,hi⟩:=hi
  split at hi
  ·split at hi
   ·cases hi;exact s_iadr_sl h1 h2 (by assumption) rfl (by assumption) h
   ·cases hi
  ·split at hi
   ·cases hi;exact s_iadr_arr h1 h2 (by assumption) rfl (by assumption) h
   ·cases hi
  ·cases hi
 case field t x fi=>
  simp only [prepO,Option.bind_eq_some_iff] at hi
  obtain ⟨x,hx,hi⟩:=hi
  split at hi
  ·simp only [Option.bind_eq_some_iff,Option.map_eq_some_iff] at hi
   obtain ⟨fd,hfd,d,hd,rfl⟩:=hi
   split at h
   ·rename_i ha;exact s_fld hx (by assumption) hfd ⟨d,hd⟩ ha (fun _=>rfl) h
   ·rename_i ha;exact s_fld hx (by assumption) hfd ⟨d,hd⟩ (by simpa using ha) (fun e=>by cases e) h
  ·cases hi
 case index t x i=>
  simp only [prepO,Option.bind_eq_some_iff] at hi
  obtain ⟨_,h1,_,h2,hi⟩:=hi
  split at hi
  ·cases hi;exact s_ixs h1 h2 (by assumption) h
  ·simp only [Option.bind_eq_some_iff] at hi
   obtain ⟨d,hd,hi⟩:=hi
   split at hi
   ·rename_i ha;cases hi;exact s_ixa h1 h2 (by assumption) ⟨d,hd⟩ ha rfl (fun e=>by cases e) h
   ·split at hi
    ·rename_i ha hk1;cases hi;exact s_ixa h1 h2 (by assumption) ⟨d,hd⟩ (by simpa using ha) hk1 (fun _=>rfl) h
    ·cases hi
  ·cases hi
 case makeMap t y=>
  cases y with
  | none=>simp only [prepO,Option.some.injEq] at hi;subst hi;exact s_mkm h
  | some y=>simp only [prepO] at hi;cases hi
 case lookup t yx yi ok=>
  simp only [prepO,Option.bind_eq_some_iff] at hi
  obtain ⟨x,hx,i,hy,hi⟩:=hi
  split at hi
  ·split at hi
   ·simp only [Option.map_eq_some_iff] at hi
    obtain ⟨z,hz,rfl⟩:=hi
    exact s_mget hx hy (by assumption) (by assumption) hz h
   ·cases hi
  ·cases hi
 case mapUpdate t ym yk yx=>
  simp only [prepO,Option.bind_eq_some_iff] at hi
  obtain ⟨m,hm,y,hy,x,hx,hi⟩:=hi
  split at hi
  ·split at hi
   ·cases hi
    exact s_mput hm hy hx (by assumption) (by assumption) h
   ·cases hi
  ·cases hi
 case extract x i=>
  simp only [prepO,Option.map_eq_some_iff] at hi
  obtain ⟨x,hx,rfl⟩:=hi
  exact s_ext (t:=0) hx h
 case call c=>
  simp only [prepO] at hi
  split at hi
  ·simp only [Option.bind_eq_some_iff] at hi
   obtain ⟨fn,hfn,hi⟩:=hi
   split at hi
   ·rename_i hc
    simp only [Option.map_eq_some_iff] at hi
    obtain ⟨xs,hxs,rfl⟩:=hi
    exact s_call hfn hc.1 hc.2 hxs h
   ·cases hi
  ·simp only [Option.map_eq_some_iff] at hi
   obtain ⟨xs,hxs,rfl⟩:=hi
   exact s_callv rfl hxs h
  ·simp only [Option.bind_eq_some_iff,Option.map_eq_some_iff] at hi
   obtain ⟨x,hx,xs,hxs,rfl⟩:=hi
   exact s_invk hx hxs h
  ·simp only [Option.bind_eq_some_iff] at hi
   obtain ⟨x,hx,hi⟩:=hi
   split at hi
   ·cases hi;exact s_lens hx (by assumption) hf h
   ·cases hi;exact s_lenl hx (by assumption) hf h
   ·cases hi
  ·simp only [Option.bind_eq_some_iff,Option.map_eq_some_iff] at hi
   obtain ⟨_,h1,_,h2,rfl⟩:=hi
   exact s_mn h1 h2 h
  ·simp only [Option.bind_eq_some_iff,Option.map_eq_some_iff] at hi
   obtain ⟨_,h1,_,h2,rfl⟩:=hi
   exact s_mx h1 h2 h
  ·simp only [Option.bind_eq_some_iff] at hi
   obtain ⟨_,h1,_,h2,hi⟩:=hi
   split at hi
   ·simp only [Option.bind_eq_some_iff] at hi
    obtain ⟨inf,hinf,z,hz,hi⟩:=hi
    split at hi
    ·rename_i hc;cases hi;exact s_app h1 h2 (by assumption) (by assumption) hinf rfl hz hc.1 hc.2 h
    ·cases hi
   ·simp only [Option.bind_eq_some_iff] at hi
    obtain ⟨inf,hinf,z,hz,hi⟩:=hi
    split at hi
    ·rename_i hc;cases hi;exact s_apps h1 h2 (by assumption) (by assumption) hinf hc.1 hz hc.2.1 hc.2.2 h
    ·cases hi
   ·cases hi
  ·cases hi
 all_goals (simp only [prepO] at hi;cases hi)
end
end Go.Proofs.YtfplalbognalkaaGreat.Ab
/- Runs of steps, code, functions: what the small language says of them is what the machine does. -/
namespace Go.Proofs.YtfplalbognalkaaGreat.Ab
open Go
structure DIns where
 i:Ins
 un:List Nat
 rd:List Nat
 deriving Inhabited
inductive C where
 | skip
 | reg (l:List Ins)
 | dreg (l:List DIns)
 | seq (a b:C)
 | cond (x:X) (a b:C)
 | block (id:Nat) (a:C)
 | loop (a:C)
 | exit (id:Nat)
 | ret
 | bad
 deriving Inhabited
inductive RV where
 | tmp (t:Nat)
 | cell (t:Nat) (agg:Bool) (n:Nat)
 deriving Inhabited
def prepG (ops:Array Oper):Option (Nat×Bool)->Option (Option (Nat×Bool))
 | none=>some none
 | some (j,b)=>((ops[j]?).bind (·.dst)).map fun t=>some (t,b)
def dstOk (nt:Nat):Option Nat->Bool
 | none=>true
 | some t=>decide (t<nt)
def prepIns (P:Program) (nt:Nat) (ops:Array Oper) (o:Oper):Ins:=
 match prepG ops o.guard with
 | some g=>if dstOk nt o.dst then ⟨o.dst,g,prepI P o.op⟩ else ⟨none,none,.bad⟩
 | none=>⟨none,none,.bad⟩
def guardOf (s:St) (g:Option (Nat×Bool)) (K:Bool->Bool->Prop):Prop:=
 match g with
 | none=>K false true
 | some (t,b)=>match look t s.env with
  | some (.e (.v (.bool x)))=>K true (x==b)
  | some (.when g' (.e (.v (.bool x))))=>K true (g'&&(x==b))
  | _=>False
def okWr (n:Nat):List (Nat×O)->Bool
 | []=>true
 | (i,_)::r=>decide (i<n)&&!(r.any (·.1==i))&&okWr n r
section
variable (A:Ar) (P:Program)
def goOps:List Ins->St->(St->Prop)->Prop
 | [],s,K=>K s
 | i::r,s,K=>guardOf s i.g fun gd g=>opA A P s.ev (hpF s.hp) s.hp.length false gd g i.i fun o eff=>o/\okWr s.hp.length eff.wr=true/\goOps r (s.app i.dst eff) K
end
structure Ctx where
 w:World
 G:Gh
 h:Hp
 nt:Nat
structure SR (c:Ctx) (s:St) (a:Act) (w:World) (G:Gh):Prop where
 defers:a.defers= []
 size:a.tmps.size=c.nt
 inv:Inv w G (hpF s.hp)
 ext:Ext c.w c.G c.h w G (hpF s.hp)
 rel: ∀t d,look t s.env=some d->Rv w G (hpF s.hp) (a.tmps.getD t undef) d
theorem SR.rels {c s a w G} (x:SR c s a w G):Rel s.ev w G (hpF s.hp) a:=rel_of (fun _=>rfl) x.rel
theorem hpF_ge {l:List O} {i:Nat} (h:l.length<=i):hpF l i= .dead:=by simp [hpF,List.getD,List.getElem?_eq_none h]
theorem hset_len: ∀(wr:List (Nat×O)) (l:List O),(hset l wr).length=l.length
 | [],_=>rfl
 | (i,o)::r,l=>by rw [hset,hset_len r];simp
theorem hset_get: ∀(wr:List (Nat×O)) (l:List O) (i:Nat),okWr l.length wr=true->i<l.length->
  (hset l wr).getD i .dead=match wr.find? (·.1==i) with | some x=>x.2 | none=>l.getD i .dead
 | [],l,i,_,_=>by simp [hset]
 | (j,o)::r,l,i,h,hi=>by
  simp only [okWr,Bool.and_eq_true,decide_eq_true_eq,Bool.not_eq_true'] at h
  obtain ⟨⟨h1,h2⟩,h3⟩:=h
  rw [hset,hset_get r (l.set j o) i (by simpa using h3) (by simpa using hi)]
  by_cases e:j=i
  ·subst e
   rw [List.find?_eq_none.2 (fun x hx=>by
    have:=List.any_eq_false.1 h2 x hx
    simpa using this)]
   simp [List.find?,h1]
  ·have:(j==i)=false:=by simpa using e
   simp only [List.find?,this]
   cases hr:r.find? (·.1==i) with
   | some x=>simp
   | none=>simp [List.getD,List.getElem?_set,e]
theorem happ_app {l:List O} {eff:Eff} (hw:okWr l.length eff.wr=true):happ (hpF l) l.length eff=hpF (hset l eff.wr++eff.al):=by
 funext i
 simp only [happ,hpF]
 have hl:=hset_len eff.wr l
 by_cases h1:i<l.length
 ·rw [if_neg (by omega)]
  have:=hset_get eff.wr l i hw h1
  simp only [List.getD,List.getElem?_append_left (show i<(hset l eff.wr).length by omega)] at this ⊢
  exact this.symm
 ·have hnf:eff.wr.find? (·.1==i)=none:=by
   refine List.find?_eq_none.2 fun x hx=>?_
   have: ∀(wr:List (Nat×O)),okWr l.length wr=true-> ∀x∈wr,x.1<l.length:=by
    intro wr
    induction wr with
    | nil=>intro _ x hx;cases hx
    | cons y r ih=>
     intro hw x hx
     simp only [okWr,Bool.and_eq_true,decide_eq_true_eq] at hw
     cases hx with
     | head=>exact hw.1.1
     | tail _ hx=>exact ih hw.2 x hx
   have:=this _ hw x hx
   simp;omega
  rw [hnf]
  simp only [List.getD,List.getElem?_append_right (show (hset l eff.wr).length<=i by omega),hl]
  by_cases h2:i<l.length+eff.al.length
  ·rw [if_pos ⟨by omega,h2⟩]
  ·rw [if_neg (by omega),List.getElem?_eq_none (show l.length<=i by omega),List.getElem?_eq_none (show eff.al.length<=i-l.length by omega)]
theorem look_app {s:St} {dst:Option Nat} {eff:Eff} {t:Nat} {d:D} (h:look t (s.app dst eff).env=some d):
  (dst=some t/\(eff.d=some d\/d= .any))\/(dst≠some t/\look t s.env=some d):=by
 cases dst with
 | none=>exact .inr ⟨by simp,by simpa [St.app] using h⟩
 | some u=>
  by_cases e:u=t
  ·subst e
   refine .inl ⟨rfl,?_⟩
   cases hd:eff.d <;>simp [St.app,hd,look] at h
   ·exact .inr h.symm
   ·exact .inl (by rw [h])
  ·refine .inr ⟨by simpa using e,?_⟩
   cases hd:eff.d <;>simpa [St.app,hd,look,e] using h
theorem SR.app {c s a w G w' G' dst v eff} (x:SR c s a w G) (hdst:dstOk c.nt dst=true) (hw:okWr s.hp.length eff.wr=true)
  (hv: ∀d,eff.d=some d->Rv w' G' (happ (hpF s.hp) s.hp.length eff) v d) (hi:Inv w' G' (happ (hpF s.hp) s.hp.length eff))
  (he:Ext w G (hpF s.hp) w' G' (happ (hpF s.hp) s.hp.length eff)):SR c (s.app dst eff) (a.put dst v) w' G':=by
 rw [happ_app hw] at hv hi he
 refine ⟨?_,?_,hi,x.ext.trans he,fun t d ht=>?_⟩
 ·cases dst <;>exact x.defers
 ·cases dst <;>simp [Act.put,x.size]
 ·rcases look_app ht with ⟨rfl,h⟩ | ⟨h1,h2⟩
  ·have:((a.put (some t) v).tmps.getD t undef)=v:=by
    simp only [dstOk,decide_eq_true_eq] at hdst
    have:=x.size
    simp [Act.put,Array.getD,show t<a.tmps.size by omega]
   rw [this]
   rcases h with h | rfl
   ·exact hv d h
   ·exact .any
  ·have:((a.put dst v).tmps.getD t undef)=a.tmps.getD t undef:=by
    cases dst with
    | none=>rfl
    | some u=>
     have hne:u≠t:=fun e=>h1 (by rw [e])
     simp [Act.put,Array.getElem?_setIfInBounds_ne hne]
   rw [this]
   exact (x.rel t d h2).ext he
theorem guard_spec {c s a w G} {ops:Array Oper} {g:Option (Nat×Bool)} {o:Oper} {K:Bool->Bool->Prop} (x:SR c s a w G) (hg:prepG ops o.guard=some g) (h:guardOf s g K):
  ∃gd g',K gd g'/\Region.wanted o (yielded ops a.tmps)=g'/\(g'=false->gd=true):=by
 unfold prepG at hg
 split at hg
 ·rename_i hn
  cases hg
  exact ⟨_,_,h,by simp [Region.wanted,hn],by simp⟩
 ·rename_i j b hj
  simp only [Option.map_eq_some_iff] at hg
  obtain ⟨t,ht,rfl⟩:=hg
  simp only [guardOf] at h
  have hy:yielded ops a.tmps j=match a.tmps.getD t undef with | .bool b=>some b | _=>none:=by
   unfold yielded
   rw [ht]
   simp only [Option.bind_some,Array.getD_eq_getD_getElem?]
   cases a.tmps[t]? with
   | none=>rfl
   | some v=>cases v <;>rfl
  split at h
  ·rename_i x' hx
   obtain ⟨e,_⟩:=rv_v (x.rel t _ hx)
   refine ⟨_,_,h,?_,by simp⟩
   simp only [Region.wanted,hj,hy,e]
   cases x' <;>cases b <;>rfl
  ·rename_i g' x' hx
   refine ⟨_,_,h,?_,by simp⟩
   have r:=x.rel t _ hx
   generalize a.tmps.getD t undef=v at r hy
   cases r with
   | when hr hu=>
    cases g' with
    | true=>
     obtain ⟨e,_⟩:=rv_v (hr rfl)
     subst e
     simp only [Region.wanted,hj,hy]
     cases x' <;>cases b <;>rfl
    | false=>
     have:=hu rfl
     subst this
     simp only [Region.wanted,hj,hy]
     rfl
  ·exact h.elim
theorem list_sound {P:Program} {c:Ctx} {ops:Array Oper} {K:St->Prop} {Q:Exit->Act->World->Prop} (hk: ∀s a w G,SR c s a w G->K s->Q .normal a w):
  ∀(l:List Oper) s a w G,SR c s a w G->goOps Ar.std P (l.map (prepIns P c.nt ops)) s K->wpList P ops Q l a w:=by
 intro l
 induction l with
 | nil=>intro s a w G x h;exact wpList_nil (hk s a w G x h)
 | cons o r ih=>
  intro s a w G x h
  simp only [List.map_cons,goOps,opA_std] at h
  unfold prepIns at h
  split at h
  ·rename_i g hg
   split at h
   ·rename_i hdst
    obtain ⟨gd,g',h,hwant,hgd⟩:=guard_spec x hg h
    obtain ⟨ow,eff,⟨how,hwr,hk'⟩,h1,h2,h3⟩:=op_sound (fun _=>⟨w,G,hpF s.hp,a,x.rels⟩) h
    refine wpList_step fun K' hK'=>?_
    split
    ·rename_i hw
     rw [hw] at hwant;subst hwant
     refine h3 how rfl w G (hpF s.hp) a K' Q x.inv (fun _ _=>rfl) (fun j hj=>hpF_ge (by omega)) x.rels fun v w' G' hv hi he=>hK' _ _ ?_
     exact ih _ _ _ G' (x.app hdst hwr hv hi he) hk'
    ·rename_i hw
     have hg':g'=false:=by rw [<-hwant];simpa using hw
     subst hg'
     obtain ⟨e1,e2,d,e3⟩:=h1 (hgd rfl) rfl
     refine hK' _ _ (ih _ _ w G ?_ hk')
     have e4:happ (hpF s.hp) s.hp.length eff=hpF s.hp:=by
      rw [happ_app hwr,e1,e2];simp [hset]
     refine x.app hdst hwr (fun d' hd'=>?_) (by rw [e4];exact x.inv) (by rw [e4];exact Ext.refl _ _ _)
     rw [e3] at hd';cases hd'
     exact .when (by simp) (fun _=>rfl)
   ·exact (by simp [guardOf,opE] at h:False).elim
  ·exact (by simp [guardOf,opE] at h:False).elim
end Go.Proofs.YtfplalbognalkaaGreat.Ab
/- Regions whose steps come in no fixed order. -/
namespace Go.Proofs.YtfplalbognalkaaGreat.Ab
open Go
def lastS {α:Type} (S:Nat->Bool):Nat->List (Option α)->α->α
 | _, [],x=>x
 | k,w::r,x=>lastS S (k+1) r (if S k then w.getD x else x)
theorem lastS_agree {α:Type} {S S':Nat->Bool} : ∀(ws:List (Option α)) (k:Nat) (x:α),(∀j,j<ws.length->S (k+j)≠S' (k+j)->ws[j]?=some none)->
  lastS S k ws x=lastS S' k ws x
 | [],_,_,_=>rfl
 | w::r,k,x,h=>by
  simp only [lastS]
  have e:(if S k then w.getD x else x)=if S' k then w.getD x else x:=by
   by_cases e:S k=S' k
   ·rw [e]
   ·have:=h 0 (by simp) (by simpa using e)
    simp at this
    subst this
    simp
  rw [e]
  exact lastS_agree r (k+1) _ fun j hj hne=>by
   have:=h (j+1) (by simp;omega) (by rw [show k+(j+1)=k+1+j by omega];exact hne)
   simpa using this
theorem lastS_put {α:Type} {S:Nat->Bool} {v:α} : ∀(ws:List (Option α)) (k j:Nat) (x:α),ws[j]?=some (some v)->S (k+j)=true->(∀i,j<i->i<ws.length->S (k+i)=true->ws[i]?=some none)->
  lastS S k ws x=v
 | [],_,_,_,h,_,_=>by simp at h
 | w::r,k,0,x,h,hs,hn=>by
  simp at h hs;subst h
  simp only [lastS,hs,if_true,Option.getD_some]
  rw [lastS_agree (S':=fun _=>false) r (k+1) v fun j hj hne=>?_]
  ·have: ∀(ws:List (Option α)) k,lastS (fun _=>false) k ws v=v:=by
    intro ws
    induction ws with
    | nil=>intro k;rfl
    | cons w r ih=>intro k;simp only [lastS];exact ih _
   exact this _ _
  ·have h1:S (k+1+j)=true:=by simpa using hne
   have:=hn (j+1) (by omega) (by simp;omega) (by rw [show k+(j+1)=k+1+j by omega];exact h1)
   simpa using this
 | w::r,k,j+1,x,h,hs,hn=>by
  simp only [lastS]
  exact lastS_put r (k+1) j _ (by simpa using h) (by rw [show k+1+j=k+(j+1) by omega];exact hs) fun i h1 h2 h3=>by
   have:=hn (i+1) (by omega) (by simp;omega) (by rw [show k+(i+1)=k+1+i by omega];exact h3)
   simpa using this
structure Rec where
 dst:Option Nat
 eff:Eff
 f:Nat
def Rec.tv (r:Rec) (i:Nat):Option O:=if r.f<=i/\i<r.f+r.eff.al.length then some (r.eff.al.getD (i-r.f) .dead) else (r.eff.wr.find? (·.1==i)).map (·.2)
def Rec.en (r:Rec) (t:Nat):Option (Option D):=if r.dst=some t then some (some (r.eff.d.getD .any)) else none
theorem Rec.happ_eq (r:Rec) (h:Hp):happ h r.f r.eff=fun i=>(r.tv i).getD (h i):=by
 funext i
 simp only [happ,Rec.tv]
 split
 ·rfl
 ·cases r.eff.wr.find? (·.1==i) <;>rfl
def runR (s:St):List Rec->St
 | []=>s
 | r::rs=>runR (s.app r.dst r.eff) rs
def okR (s:St):List Rec->Prop
 | []=>True
 | r::rs=>r.f=s.hp.length/\okWr s.hp.length r.eff.wr=true/\(∀i∈r.eff.tc,i<s.hp.length)/\okR (s.app r.dst r.eff) rs
theorem runR_heap: ∀(rs:List Rec) (s:St) (k i:Nat),okR s rs->lastS (fun _=>true) k (rs.map (·.tv i)) (hpF s.hp i)=hpF (runR s rs).hp i
 | [],_,_,_,_=>rfl
 | r::rs,s,k,i,h=>by
  obtain ⟨h1,h2,_,h3⟩:=h
  simp only [List.map_cons,lastS,if_true,runR]
  rw [<-runR_heap rs _ (k+1) i h3]
  have:=congrFun (happ_app h2) i
  rw [<-h1,Rec.happ_eq] at this
  simp only at this
  rw [this]
  rfl
theorem runR_env: ∀(rs:List Rec) (s:St) (k t:Nat),lastS (fun _=>true) k (rs.map (·.en t)) (look t s.env)=look t (runR s rs).env
 | [],_,_,_=>rfl
 | r::rs,s,k,t=>by
  simp only [List.map_cons,lastS,if_true,runR]
  rw [<-runR_env rs _ (k+1) t]
  congr 1
  simp only [Rec.en]
  cases hd:r.dst with
  | none=>simp [St.app]
  | some u=>
   by_cases e:u=t
   ·subst e;cases he:r.eff.d <;>simp [St.app,he,look]
   ·cases he:r.eff.d <;>simp [St.app,he,look,e]
theorem okR_get: ∀(rs:List Rec) (s:St) (j:Nat) (r:Rec),okR s rs->rs[j]?=some r->
  r.f=(runR s (rs.take j)).hp.length/\okWr r.f r.eff.wr=true/\(∀i∈r.eff.tc,i<r.f)/\(∀k x,j<k->rs[k]?=some x->r.f+r.eff.al.length<=x.f)/\s.hp.length<=r.f
 | [],_,j,_,_,h=>by simp at h
 | r::rs,s,0,r',ok,h=>by
  simp at h;subst h
  obtain ⟨h1,h2,h3,h4⟩:=ok
  refine ⟨h1,by rw [h1];exact h2,by rw [h1];exact h3,fun k x hk hx=>?_,by omega⟩
  obtain ⟨k,rfl⟩: ∃k',k=k'+1:=⟨k-1,by omega⟩
  obtain ⟨_,_,_,_,h5⟩:=okR_get rs _ k x h4 (by simpa using hx)
  simp [St.app,hset_len] at h5
  omega
 | r::rs,s,j+1,r',ok,h=>by
  obtain ⟨h1,h2,h3,h4⟩:=ok
  obtain ⟨a1,a2,a3,a4,a5⟩:=okR_get rs _ j r' h4 (by simpa using h)
  refine ⟨a1,a2,a3,fun k x hk hx=>?_,?_⟩
  ·obtain ⟨k,rfl⟩: ∃k',k=k'+1:=⟨k-1,by omega⟩
   exact a4 k x (by omega) (by simpa using hx)
  ·simp [St.app,hset_len] at a5
   omega
theorem okWr_lt {n:Nat} : ∀ {wr:List (Nat×O)},okWr n wr=true-> ∀x∈wr,x.1<n
 | [],_,x,hx=>by cases hx
 | y::r,hw,x,hx=>by
  simp only [okWr,Bool.and_eq_true,decide_eq_true_eq] at hw
  cases hx with
  | head=>exact hw.1.1
  | tail _ hx=>exact okWr_lt hw.2 x hx
theorem Rec.tv_some {r:Rec} {i:Nat} {o:O} (h:r.tv i=some o):(r.f<=i/\i<r.f+r.eff.al.length)\/ ∃x∈r.eff.wr,x.1=i:=by
 unfold Rec.tv at h
 split at h
 ·exact .inl (by assumption)
 ·simp only [Option.map_eq_some_iff] at h
  obtain ⟨x,hx,_⟩:=h
  exact .inr ⟨x,List.mem_of_find?_eq_some hx,by simpa using List.find?_some hx⟩
def apartR (k r:Rec):Bool:=
 r.eff.tc.all (fun x=>!(k.eff.wr.any (·.1==x))&&!(decide (k.f<=x)&&decide (x<k.f+k.eff.al.length)))&&r.eff.wr.all (fun x=>!(k.eff.tc.contains x.1))
def apartAll (pv:List Rec) (r:Rec):List Nat->Bool
 | []=>true
 | k::un=>(match pv[k]? with | some x=>apartR x r | none=>false)&&apartAll pv r un
def St.evR (s:St) (rd:List Nat):X->Option D
 | .s t=>if rd.contains t then look t s.env else none
 | .c d=>some d
def goD (A:Ar) (P:Program):List DIns->List Rec->St->(St->Prop)->Prop
 | [],_,s,K=>K s
 | i::r,pv,s,K=>guardOf s i.i.g fun gd g=>opA A P (s.evR i.rd) (hpF s.hp) s.hp.length true gd g i.i.i fun o eff=>
   o/\okWr s.hp.length eff.wr=true/\eff.tc.all (fun x=>decide (x<s.hp.length))=true/\apartAll pv ⟨i.i.dst,eff,s.hp.length⟩ i.un=true/\
    goD A P r (pv++ [⟨i.i.dst,eff,s.hp.length⟩]) (s.app i.i.dst eff) K
def directs (o:Oper):List Nat:=(o.after.toList.filter (Region.binds .any)).map (·.on)
def ancs:List Oper->List (List Nat)->List (List Nat)
 | [],acc=>acc
 | o::r,acc=>ancs r (acc++ [((directs o).flatMap fun e=>e::acc.getD e []).eraseDups])
def Closed (ops:Array Oper) (S:Nat->Bool):Prop:= ∀i o,ops[i]?=some o->S i=true-> ∀e∈directs o,S e=true
def unOf (A:List (List Nat)) (j:Nat):List Nat:=(List.range j).filter fun k=>!((A.getD j []).contains k)
def prepD (P:Program) (nt:Nat) (ops:Array Oper) (A:List (List Nat)) (j:Nat) (o:Oper):DIns:=
 let un:=unOf A j
 let rd:=o.looksAt ops
 if (directs o).all (fun e=>decide (e<j))&&un.all (fun k=>match ops[k]? with | some x=>x.apart ops o | none=>false) then ⟨prepIns P nt ops o,un,rd⟩ else ⟨⟨none,none,.bad⟩, [], []⟩
def prepDs (P:Program) (nt:Nat) (ops:Array Oper) (A:List (List Nat)):Nat->List Oper->List DIns
 | _, []=> []
 | j,o::r=>prepD P nt ops A j o::prepDs P nt ops A (j+1) r
theorem ancs_spec {ops:Array Oper} : ∀(l:List Oper) (acc:List (List Nat)),(∀j,l[j]?=ops[acc.length+j]?)->
  (∀(j:Nat) ks,acc[j]?=some ks-> ∀k∈ks,∀S,Closed ops S->(∀o,ops[j]?=some o-> ∀e∈directs o,S e=true)->S k=true)->
  ∀(j:Nat) ks,(ancs l acc)[j]?=some ks-> ∀k∈ks,∀S,Closed ops S->(∀o,ops[j]?=some o-> ∀e∈directs o,S e=true)->S k=true
 | [],_,_,h=>h
 | o::r,acc,hl,h=>by
  refine ancs_spec r _ (fun j=>?_) fun j ks hj k hk S hS hd=>?_
  ·have:=hl (j+1)
   simp only [List.getElem?_cons_succ] at this
   rw [this,List.length_append,List.length_singleton,show acc.length+(j+1)=acc.length+1+j by omega]
  ·by_cases e:j<acc.length
   ·rw [List.getElem?_append_left e] at hj
    exact h j ks hj k hk S hS hd
   ·rw [List.getElem?_append_right (by omega)] at hj
    have ej:j=acc.length:=by
     rcases Nat.lt_or_ge (j-acc.length) 1 with h1 | h1
     ·omega
     ·rw [List.getElem?_eq_none (by simpa using h1)] at hj;cases hj
    subst ej
    simp at hj
    subst hj
    have ho:ops[acc.length]?=some o:=by have:=hl 0;simpa using this.symm
    have hk:k∈((directs o).flatMap fun e=>e::acc.getD e []):=by
     simpa [List.getD] using hk
    rw [List.mem_flatMap] at hk
    obtain ⟨x,hx,hk⟩:=hk
    have hSx:=hd o ho x hx
    cases hk with
    | head=>exact hSx
    | tail _ hk=>
     cases hax:acc[x]? with
     | none=>simp only [List.getD,hax,Option.getD_none] at hk;cases hk
     | some ys=>
      simp only [List.getD,hax,Option.getD_some] at hk
      exact h x ys hax k hk S hS fun o' ho' e' he'=>hS x o' ho' hSx e' he'
theorem guard_spec0 {ops:Array Oper} {s:St} {g:Option (Nat×Bool)} {o:Oper} {K:Bool->Bool->Prop} (hg:prepG ops o.guard=some g) (h:guardOf s g K):
  ∃gd g',K gd g'/\(g'=false->gd=true)/\ ∀(w:World) (G:Gh) (hp:Hp) (a:Act),(∀t d,t∈o.looksAt ops->look t s.env=some d->Rv w G hp (a.tmps.getD t undef) d)->
   Region.wanted o (yielded ops a.tmps)=g':=by
 unfold prepG at hg
 split at hg
 ·rename_i hn
  cases hg
  exact ⟨_,_,h,by simp,fun _ _ _ _ _=>by simp [Region.wanted,hn]⟩
 ·rename_i j b hj
  simp only [Option.map_eq_some_iff] at hg
  obtain ⟨t,ht,rfl⟩:=hg
  simp only [guardOf] at h
  have hlook:t∈o.looksAt ops:=by simp [Oper.looksAt,hj,ht]
  have hy: ∀a:Act,yielded ops a.tmps j=match a.tmps.getD t undef with | .bool b=>some b | _=>none:=fun a=>by
   unfold yielded
   rw [ht]
   simp only [Option.bind_some,Array.getD_eq_getD_getElem?]
   cases a.tmps[t]? with
   | none=>rfl
   | some v=>cases v <;>rfl
  split at h
  ·rename_i x' hx
   refine ⟨_,_,h,by simp,fun w G hp a hr=>?_⟩
   obtain ⟨e,_⟩:=rv_v (hr t _ hlook hx)
   simp only [Region.wanted,hj,hy,e]
   cases x' <;>cases b <;>rfl
  ·rename_i g' x' hx
   refine ⟨_,_,h,by simp,fun w G hp a hr=>?_⟩
   have r:=hr t _ hlook hx
   have hya:=hy a
   generalize a.tmps.getD t undef=v at r hya
   cases r with
   | when hr hu=>
    cases g' with
    | true=>
     obtain ⟨e,_⟩:=rv_v (hr rfl)
     subst e
     simp only [Region.wanted,hj,hya]
     cases x' <;>cases b <;>rfl
    | false=>
     have:=hu rfl
     subst this
     simp only [Region.wanted,hj,hya]
     rfl
  ·exact h.elim
def StepD (P:Program) (nt:Nat) (ops:Array Oper) (o:Oper) (r:Rec) (s:St):Prop:=
 ∀(w:World) (G:Gh) (h:Hp) (a:Act) (K:Act->World->Prop) (Q:Exit->Act->World->Prop),Inv w G h->(∀i∈r.eff.tc,h i=hpF s.hp i)->
  (∀m,m<r.eff.al.length->h (r.f+m)= .dead)->(∀t d,t∈o.looksAt ops->look t s.env=some d->Rv w G h (a.tmps.getD t undef) d)->
  (∀v w' G',(∀d,r.eff.d=some d->Rv w' G' (happ h r.f r.eff) v d)->Inv w' G' (happ h r.f r.eff)->Ext w G h w' G' (happ h r.f r.eff)->K (a.put o.dst v) w')->
  if Region.wanted o (yielded ops a.tmps) then o.wp P a w K Q else K (a.put o.dst undef) w
theorem goD_spec {P:Program} {nt:Nat} {ops:Array Oper} {A:List (List Nat)} {K:St->Prop} : ∀(l:List Oper) (j:Nat) (pv:List Rec) (s:St),goD Ar.std P (prepDs P nt ops A j l) pv s K->pv.length=j->
  ∃recs:List Rec,recs.length=l.length/\okR s recs/\K (runR s recs)/\ ∀(m:Nat) o r,l[m]?=some o->recs[m]?=some r->
   StepD P nt ops o r (runR s (recs.take m))/\r.dst=o.dst/\dstOk nt o.dst=true/\(∀x∈r.eff.wr,x.1∈r.eff.tc)/\(∀e∈directs o,e<j+m)/\
   ∀k∈unOf A (j+m),(∃x,ops[k]?=some x/\x.apart ops o=true)/\ ∃y,(pv++recs)[k]?=some y/\apartR y r=true:=by
 intro l
 induction l with
 | nil=>intro j pv s h _;exact ⟨[],rfl,trivial,h,fun m o r h=>by simp at h⟩
 | cons o l ih=>
  intro j pv s h hj
  simp only [prepDs,goD,opA_std] at h
  unfold prepD at h
  simp only at h
  split at h
  case isFalse=>exact (by simp [guardOf,opE] at h:False).elim
  rename_i hst
  simp only [Bool.and_eq_true,List.all_eq_true,decide_eq_true_eq] at hst
  obtain ⟨hst1,hst2⟩:=hst
  simp only at h
  unfold prepIns at h
  split at h
  case h_2=>exact (by simp [guardOf,opE] at h:False).elim
  rename_i g hg
  split at h
  case isFalse=>exact (by simp [guardOf,opE] at h:False).elim
  rename_i hdst
  simp only at h
  obtain ⟨gd,g',h,hgd,hwant⟩:=guard_spec0 hg h
  obtain ⟨ow,eff,⟨how,hwr,htc,hap,hk⟩,h1,h2,h3⟩:=op_sound (by simp) h
  obtain ⟨recs,q1,q2,q3,q4⟩:=ih (j+1) _ _ hk (by simp [hj])
  refine ⟨⟨o.dst,eff,s.hp.length⟩::recs,by simp [q1],⟨rfl,hwr,by simpa using htc,q2⟩,q3,fun m o' r ho hr=>?_⟩
  cases m with
  | zero=>
   simp at ho hr
   subst ho;subst hr
   refine ⟨?_,rfl,hdst,h2,by simpa using hst1,fun k hk'=>⟨?_,?_⟩⟩
   ·intro w G hh a K' Q hi ht hd hr hK'
    have hrel:Rel (s.evR (o.looksAt ops)) w G hh a:=rel_of (fun _=>rfl) fun t d htd=>by
     simp only [St.evR] at htd
     split at htd
     ·rename_i hc
      exact hr t d (by simpa using hc) htd
     ·cases htd
    split
    ·rename_i hw
     rw [hwant w G hh a hr] at hw
     subst hw
     exact h3 how rfl w G hh a K' Q hi ht hd hrel hK'
    ·rename_i hw
     have hg':g'=false:=by rw [hwant w G hh a hr] at hw;simpa using hw
     subst hg'
     obtain ⟨e1,e2,d,e3⟩:=h1 (hgd rfl) rfl
     have e4:happ hh s.hp.length eff=hh:=by
      funext i
      simp only [happ,e1,e2,List.length_nil,Nat.add_zero,List.find?_nil]
      rw [if_neg (by omega)]
     have:=hK' undef w G (fun d' hd'=>by
      simp only at hd' ⊢
      rw [e3] at hd';cases hd'
      exact .when (by simp) (fun _=>rfl)) (by simp only;rw [e4];exact hi) (by simp only;rw [e4];exact Ext.refl _ _ _)
     exact this
   ·have:=hst2 k hk'
    split at this
    ·rename_i x hx;exact ⟨x,hx,this⟩
    ·cases this
   ·have hin: ∀un:List Nat,apartAll pv ⟨o.dst,eff,s.hp.length⟩ un=true-> ∀k∈un,∃y,pv[k]?=some y/\apartR y ⟨o.dst,eff,s.hp.length⟩=true:=by
     intro un
     induction un with
     | nil=>intro _ k hk;cases hk
     | cons u un ihu=>
      intro hu k hk
      simp only [apartAll,Bool.and_eq_true] at hu
      cases hk with
      | head=>
       have:=hu.1
       split at this
       ·rename_i x hx;exact ⟨x,hx,this⟩
       ·cases this
      | tail _ hk=>exact ihu hu.2 k hk
    obtain ⟨y,hy,hy'⟩:=hin _ hap k hk'
    refine ⟨y,?_,hy'⟩
    have hlt:k<pv.length:=by
     rcases Nat.lt_or_ge k pv.length with h | h
     ·exact h
     ·rw [List.getElem?_eq_none h] at hy;cases hy
    rw [List.getElem?_append_left hlt];exact hy
  | succ m=>
   simp at ho hr
   obtain ⟨a1,a2,a3,a4,a5,a6⟩:=q4 m o' r ho hr
   refine ⟨by simpa [runR] using a1,a2,a3,a4,fun e he=>by have:=a5 e he;omega,fun k hk'=>?_⟩
   rw [show j+(m+1)=j+1+m by omega] at hk'
   obtain ⟨b1,b2⟩:=a6 k hk'
   exact ⟨b1,by simpa using b2⟩
end Go.Proofs.YtfplalbognalkaaGreat.Ab
/- Regions whose steps come in no fixed order: every order gives the text's. -/
namespace Go.Proofs.YtfplalbognalkaaGreat.Ab
open Go
theorem lastS_none {α:Type} {S:Nat->Bool} (ws:List (Option α)) (k:Nat) (x:α) (h: ∀j,j<ws.length->S (k+j)=true->ws[j]?=some none):lastS S k ws x=x:=by
 rw [lastS_agree (S':=fun _=>false) ws k x fun j hj hne=>h j hj (by simpa using hne)]
 clear h
 induction ws generalizing k with
 | nil=>rfl
 | cons w r ih=>simp only [lastS];exact ih _
theorem lastS_take {α:Type} : ∀(ws:List (Option α)) (k j:Nat) (x:α),lastS (fun _=>true) k (ws.take j) x=lastS (fun i=>decide (i<k+j)) k ws x
 | [],k,j,x=>by simp [lastS]
 | w::r,k,0,x=>by
  rw [lastS_none (S:=fun i=>decide (i<k+0)) (w::r) k x fun j _ h=>absurd (of_decide_eq_true h) (by omega)]
  rfl
 | w::r,k,j+1,x=>by
  simp only [List.take_succ_cons,lastS,if_true]
  rw [if_pos (by simp),lastS_take r (k+1) j]
  congr 1
  funext i
  simp only [decide_eq_decide]
  omega
section
variable {P:Program} {nt:Nat} {ops:Array Oper} {A:List (List Nat)} {s:St} {recs:List Rec}
structure Facts (P:Program) (nt:Nat) (ops:Array Oper) (A:List (List Nat)) (s:St) (recs:List Rec):Prop where
 len:recs.length=ops.size
 ok:okR s recs
 step: ∀(j:Nat) o r,ops[j]?=some o->recs[j]?=some r->StepD P nt ops o r (runR s (recs.take j))/\r.dst=o.dst/\dstOk nt o.dst=true/\(∀x∈r.eff.wr,x.1∈r.eff.tc)/\ ∀e∈directs o,e<j
 un: ∀(j k:Nat) o r x y,ops[j]?=some o->recs[j]?=some r->ops[k]?=some x->recs[k]?=some y->k∈unOf A j->x.apart ops o=true/\apartR y r=true
 anc: ∀(j:Nat) ks,A[j]?=some ks-> ∀k∈ks,∀S,Closed ops S->(∀o,ops[j]?=some o-> ∀e∈directs o,S e=true)->S k=true
theorem Facts.get (F:Facts P nt ops A s recs) {j:Nat} (h:j<recs.length): ∃o r,ops[j]?=some o/\recs[j]?=some r:=
 ⟨_,_,Array.getElem?_eq_getElem (by rw [<-F.len];exact h),List.getElem?_eq_getElem h⟩
def hS (s:St) (recs:List Rec) (S:Nat->Bool):Hp:=fun i=>lastS S 0 (recs.map (·.tv i)) (hpF s.hp i)
def eS (s:St) (recs:List Rec) (S:Nat->Bool) (t:Nat):Option D:=lastS S 0 (recs.map (·.en t)) (look t s.env)
theorem un_of (F:Facts P nt ops A s recs) {S:Nat->Bool} {j k:Nat} (hc:Closed ops S) (hp: ∀o,ops[j]?=some o-> ∀e∈directs o,S e=true) (hk:k<j) (hn:S k=false):k∈unOf A j:=by
 simp only [unOf,List.mem_filter,List.mem_range,Bool.not_eq_true',hk,true_and]
 cases hA:A[j]? with
 | none=>simp [List.getD,hA]
 | some ks=>
  simp only [List.getD,hA,Option.getD_some]
  cases hks:ks.contains k with
  | false=>rfl
  | true=>
   have:=F.anc j ks hA k (by simpa using hks) S hc hp
   rw [this] at hn;cases hn
theorem en_none {r:Rec} {t:Nat} (h:r.dst≠some t):r.en t=none:=by simp [Rec.en,h]
theorem apartR_spec {k r:Rec} (h:apartR k r=true):(∀i∈r.eff.tc,(∀x∈k.eff.wr,x.1≠i)/\ ¬(k.f<=i/\i<k.f+k.eff.al.length))/\ ∀x∈r.eff.wr,x.1∉k.eff.tc:=by
 simp only [apartR,Bool.and_eq_true,List.all_eq_true,Bool.not_eq_true',List.any_eq_false,Bool.and_eq_false_iff,decide_eq_false_iff_not,beq_iff_eq] at h
 refine ⟨fun i hi=>⟨fun x hx=>(h.1 i hi).1 x hx,fun ⟨a,b⟩=>?_⟩,fun x hx=>by simpa using h.2 x hx⟩
 rcases (h.1 i hi).2 with q | q
 ·exact q a
 ·exact q b
theorem one_step (F:Facts P nt ops A s recs) {S S':Nat->Bool} {j:Nat} {o:Oper} {r:Rec} (hc:Closed ops S) (ho:ops[j]?=some o) (hr:recs[j]?=some r)
  (hp: ∀e∈directs o,S e=true) (hj:S j=false) (hS': ∀k,S' k=(S k || decide (k=j))):
  (∀i∈r.eff.tc,hS s recs S i=hpF (runR s (recs.take j)).hp i)/\(∀m,m<r.eff.al.length->hS s recs S (r.f+m)= .dead)/\
  (∀t∈o.looksAt ops,eS s recs S t=look t (runR s (recs.take j)).env)/\hS s recs S'=happ (hS s recs S) r.f r.eff/\
  (∀t,eS s recs S' t=if r.dst=some t then some (r.eff.d.getD .any) else eS s recs S t):=by
 have hp': ∀o',ops[j]?=some o'-> ∀e∈directs o',S e=true:=fun o' h'=>by rw [ho] at h';cases h';exact hp
 obtain ⟨f1,f2,f3,f4,f5⟩:=okR_get recs s j r F.ok hr
 obtain ⟨_,g2,g3,g4,g5⟩:=F.step j o r ho hr
 have late: ∀k y,j<k->S k=true->recs[k]?=some y-> ∃x,ops[k]?=some x/\y.dst=x.dst/\o.apart ops x=true/\apartR r y=true/\r.f+r.eff.al.length<=y.f/\ ∀x∈y.eff.wr,x.1∈y.eff.tc:=by
  intro k y hjk hSk hy
  have hk:k<recs.length:=by
   rcases Nat.lt_or_ge k recs.length with h | h
   ·exact h
   ·rw [List.getElem?_eq_none h] at hy;cases hy
  obtain ⟨x,y',hx,hy'⟩:=F.get hk
  rw [hy] at hy';cases hy'
  obtain ⟨_,q2,_,q4,_⟩:=F.step k x y hx hy
  have hu:=un_of F (j:=k) (k:=j) hc (fun o' h'=>by rw [hx] at h';cases h';exact hc k x hx hSk) hjk hj
  obtain ⟨u1,u2⟩:=F.un k j x y o r hx hy ho hr hu
  exact ⟨x,hx,q2,u1,u2,f4 k y hjk hy,q4⟩
 have early: ∀k y,k<j->S k=false->recs[k]?=some y-> ∃x,ops[k]?=some x/\y.dst=x.dst/\x.apart ops o=true/\apartR y r=true:=by
  intro k y hjk hSk hy
  have hk:k<recs.length:=by
   rcases Nat.lt_or_ge k recs.length with h | h
   ·exact h
   ·rw [List.getElem?_eq_none h] at hy;cases hy
  obtain ⟨x,y',hx,hy'⟩:=F.get hk
  rw [hy] at hy';cases hy'
  obtain ⟨_,q2,_,q4,_⟩:=F.step k x y hx hy
  have hu:=un_of F (j:=j) (k:=k) hc hp' hjk hSk
  obtain ⟨u1,u2⟩:=F.un j k o r x y ho hr hx hy hu
  exact ⟨x,hx,q2,u1,u2⟩
 have get: ∀ {k:Nat},k<recs.length-> ∃y,recs[k]?=some y:=fun h=>⟨_,List.getElem?_eq_getElem h⟩
 have tvn: ∀ {y:Rec} {i:Nat},¬(y.f<=i/\i<y.f+y.eff.al.length)->(∀x∈y.eff.wr,x.1≠i)->y.tv i=none:=fun {y i} h1 h2=>by
  cases h:y.tv i with
  | none=>rfl
  | some v=>
   rcases Rec.tv_some h with q | ⟨x,hx,q⟩
   ·exact absurd q h1
   ·exact absurd q (h2 x hx)
 refine ⟨fun i hi=>?_,fun m hm=>?_,fun t ht=>?_,?_,fun t=>?_⟩
 ·rw [<-runR_heap (recs.take j) s 0 i (by
   have: ∀(rs:List Rec) (s:St) j,okR s rs->okR s (rs.take j):=by
    intro rs
    induction rs with
    | nil=>intro s j _;simp [okR]
    | cons r rs ih=>
     intro s j h
     cases j with
     | zero=>simp [okR]
     | succ j=>exact ⟨h.1,h.2.1,h.2.2.1,ih _ j h.2.2.2⟩
   exact this recs s j F.ok),List.map_take,lastS_take]
  refine lastS_agree _ 0 _ fun k hk hne=>?_
  simp only [Nat.zero_add] at hne ⊢
  rw [List.length_map] at hk
  obtain ⟨y,hy⟩:=get hk
  simp only [List.getElem?_map,hy,Option.map_some,Option.some.injEq]
  by_cases hkj:k<j
  ·have hSk:S k=false:=by
    rw [decide_eq_true hkj] at hne
    simpa using hne
   obtain ⟨x,_,_,_,a4⟩:=early k y hkj hSk hy
   obtain ⟨b1,b2⟩:=(apartR_spec a4).1 i hi
   exact tvn b2 b1
  ·have hSk:S k=true:=by
    rw [decide_eq_false hkj] at hne
    simpa using hne
   have hne:k≠j:=fun e=>by subst e;rw [hSk] at hj;cases hj
   obtain ⟨x,_,_,_,a4,a5,a6⟩:=late k y (by omega) hSk hy
   have hif:=f3 i hi
   exact tvn (by omega) fun x hx e=>(apartR_spec a4).2 x hx (by rw [e];exact hi)
 ·have h0:hpF s.hp (r.f+m)= .dead:=hpF_ge (by omega)
  show lastS S 0 _ _=_
  rw [lastS_none _ _ _ fun k hk hSk=>?_,h0]
  simp only [Nat.zero_add] at hSk
  rw [List.length_map] at hk
  obtain ⟨y,hy⟩:=get hk
  simp only [List.getElem?_map,hy,Option.map_some,Option.some.injEq]
  by_cases hkj:k<j
  ·obtain ⟨_,c2,_,c4,_⟩:=okR_get recs s k y F.ok hy
   have:=c4 j r hkj hr
   exact tvn (by omega) fun x hx e=>by have:=okWr_lt c2 x hx;omega
  ·have hne:k≠j:=fun e=>by subst e;rw [hSk] at hj;cases hj
   obtain ⟨x,_,_,_,a4,a5,a6⟩:=late k y (by omega) hSk hy
   exact tvn (by omega) fun x hx e=>by
    have:=((apartR_spec a4).1 x.1 (a6 x hx)).2
    omega
 ·rw [<-runR_env (recs.take j) s 0 t,List.map_take,lastS_take]
  refine lastS_agree _ 0 _ fun k hk hne=>?_
  simp only [Nat.zero_add] at hne ⊢
  rw [List.length_map] at hk
  obtain ⟨y,hy⟩:=get hk
  simp only [List.getElem?_map,hy,Option.map_some,Option.some.injEq]
  by_cases hkj:k<j
  ·have hSk:S k=false:=by
    rw [decide_eq_true hkj] at hne
    simpa using hne
   obtain ⟨x,_,a2,a3,_⟩:=early k y hkj hSk hy
   exact en_none fun e=>(Oper.apart_spec a3).1 t (by rw [<-a2];exact e) ht
  ·have hSk:S k=true:=by
    rw [decide_eq_false hkj] at hne
    simpa using hne
   have hne:k≠j:=fun e=>by subst e;rw [hSk] at hj;cases hj
   obtain ⟨x,_,a2,a3,_⟩:=late k y (by omega) hSk hy
   exact en_none fun e=>(Oper.apart_spec a3).2.2 t (by rw [<-a2];exact e) ht
 ·rw [Rec.happ_eq]
  funext i
  show lastS S' 0 _ _=(r.tv i).getD (lastS S 0 _ _)
  cases htv:r.tv i with
  | none=>
   simp only [Option.getD_none]
   refine lastS_agree _ 0 _ fun k hk hne=>?_
   simp only [Nat.zero_add] at hne ⊢
   rw [hS'] at hne
   have:k=j:=by
    cases hq:decide (k=j) with
    | true=>simpa using hq
    | false=>rw [hq] at hne;simp at hne
   subst this
   simp [hr,htv]
  | some v=>
   simp only [Option.getD_some]
   refine lastS_put _ 0 j _ (by simp [hr,htv]) (by rw [hS'];simp) fun k h1 h2 h3=>?_
   simp only [Nat.zero_add] at h3
   rw [List.length_map] at h2
   rw [hS'] at h3
   have hSk:S k=true:=by
    have hq:decide (k=j)=false:=by simp;omega
    rw [hq] at h3;simpa using h3
   obtain ⟨y,hy⟩:=get h2
   obtain ⟨x,_,a2,a3,a4,a5,a6⟩:=late k y h1 hSk hy
   simp only [List.getElem?_map,hy,Option.map_some,Option.some.injEq]
   rcases Rec.tv_some htv with q | ⟨z,hz,q⟩
   ·exact tvn (by omega) fun x hx e=>by
     have:=((apartR_spec a4).1 x.1 (a6 x hx)).2
     omega
   ·have:=okWr_lt f2 z hz
    exact tvn (by omega) fun x hx e=>by
     have:=((apartR_spec a4).1 x.1 (a6 x hx)).1 z hz
     omega
 ·show lastS S' 0 _ _=_
  by_cases e:r.dst=some t
  ·rw [if_pos e]
   refine lastS_put _ 0 j _ (by simp [hr,Rec.en,e]) (by rw [hS'];simp) fun k h1 h2 h3=>?_
   simp only [Nat.zero_add] at h3
   rw [List.length_map] at h2
   rw [hS'] at h3
   have hSk:S k=true:=by
    have hq:decide (k=j)=false:=by simp;omega
    rw [hq] at h3;simpa using h3
   obtain ⟨y,hy⟩:=get h2
   obtain ⟨x,_,a2,a3,_⟩:=late k y h1 hSk hy
   simp only [List.getElem?_map,hy,Option.map_some,Option.some.injEq]
   exact en_none fun e'=>(Oper.apart_spec a3).2.1 t (by rw [<-g2];exact e) (by rw [<-a2];exact e')
  ·rw [if_neg e]
   refine lastS_agree _ 0 _ fun k hk hne=>?_
   simp only [Nat.zero_add] at hne ⊢
   rw [hS'] at hne
   have:k=j:=by
    cases hq:decide (k=j) with
    | true=>simpa using hq
    | false=>rw [hq] at hne;simp at hne
   subst this
   simp [hr,en_none e]
structure SRD (c:Ctx) (s:St) (recs:List Rec) (S:Nat->Bool) (a:Act) (w:World) (G:Gh):Prop where
 defers:a.defers= []
 size:a.tmps.size=c.nt
 inv:Inv w G (hS s recs S)
 ext:Ext c.w c.G c.h w G (hS s recs S)
 rel: ∀t d,eS s recs S t=some d->Rv w G (hS s recs S) (a.tmps.getD t undef) d
theorem any_sound {c:Ctx} {Q:Exit->Act->World->Prop} (F:Facts P c.nt ops A s recs) (hq: ∀a w G,SR c (runR s recs) a w G->Q .normal a w):
  ∀(fuel:Nat) (listed:Array Bool) (a:Act) (w:World) (G:Gh),listed.size=ops.size->listed.toList.count false<=fuel->Closed ops (fun k=>listed.getD k false)->
   SRD c s recs (fun k=>listed.getD k false) a w G->wpAny P .any ops Q fuel listed a w:=by
 have fin: ∀(listed:Array Bool) (a:Act) (w:World) (G:Gh),listed.size=ops.size->Region.ready .any ops listed= []->SRD c s recs (fun k=>listed.getD k false) a w G->Q .normal a w:=by
  intro listed a w G hsz hr x
  have all: ∀k,k<ops.size->listed.getD k false=true:=by
   intro k
   induction k using Nat.strongRecOn with
   | _ k ih=>
    intro hk
    cases hl:listed.getD k false with
    | true=>rfl
    | false=>
     exfalso
     have hin:k∈Region.ready .any ops listed:=by
      simp only [Region.ready,List.mem_filter,List.mem_range,hk,true_and,Bool.and_eq_true,Bool.not_eq_true']
      obtain ⟨o,r,ho,hr'⟩:=F.get (by rw [F.len];exact hk)
      refine ⟨?_,?_⟩
      ·have:k<listed.size:=by omega
       simp only [Array.getD,this,dif_pos] at hl ⊢
       exact hl
      ·simp only [ho,Option.map_some,Option.getD_some]
       rw [<-Array.all_toList,List.all_eq_true]
       intro e he
       cases hb:Region.binds .any e with
       | false=>rfl
       | true=>
        have hd:e.on∈directs o:=by
         simp only [directs,List.mem_map,List.mem_filter]
         exact ⟨e,⟨he,hb⟩,rfl⟩
        have hlt:=(F.step k o r ho hr').2.2.2.2 e.on hd
        simp only [Bool.not_true,Bool.false_or]
        exact ih e.on hlt (by omega)
     rw [hr] at hin;cases hin
  have e1:hS s recs (fun k=>listed.getD k false)=hpF (runR s recs).hp:=by
   funext i
   rw [<-runR_heap recs s 0 i F.ok]
   refine lastS_agree _ 0 _ fun k hk hne=>?_
   rw [List.length_map,F.len] at hk
   simp only [Nat.zero_add] at hne
   exact absurd (all k hk) hne
  have e2: ∀t,eS s recs (fun k=>listed.getD k false) t=look t (runR s recs).env:=by
   intro t
   rw [<-runR_env recs s 0 t]
   refine lastS_agree _ 0 _ fun k hk hne=>?_
   rw [List.length_map,F.len] at hk
   simp only [Nat.zero_add] at hne
   exact absurd (all k hk) hne
  exact hq a w G ⟨x.defers,x.size,e1▸x.inv,e1▸x.ext,fun t d h=>e1▸x.rel t d (by rw [e2];exact h)⟩
 intro fuel
 induction fuel with
 | zero=>
  intro listed a w G hsz hcnt hc x
  have hr:Region.ready .any ops listed= []:=by
   rw [List.eq_nil_iff_forall_not_mem]
   intro k hk
   simp only [Region.ready,List.mem_filter,List.mem_range,Bool.and_eq_true,Bool.not_eq_true'] at hk
   obtain ⟨h1,h2,_⟩:=hk
   have hlt:k<listed.size:=by omega
   simp only [Array.getD,hlt,dif_pos] at h2
   have:false∈listed.toList:=by
    rw [Array.mem_toList_iff]
    exact Array.mem_of_getElem h2
   have:=List.count_pos_iff.2 this
   omega
  exact ⟨hr,fin listed a w G hsz hr x⟩
 | succ fuel ih=>
  intro listed a w G hsz hcnt hc x
  refine ⟨fun hr=>fin listed a w G hsz hr x,fun j hj=>?_⟩
  simp only [Region.ready,List.mem_filter,List.mem_range,Bool.and_eq_true,Bool.not_eq_true'] at hj
  obtain ⟨h1,h2,h3⟩:=hj
  obtain ⟨o,r,ho,hr⟩:=F.get (by rw [F.len];exact h1)
  have hlt:j<listed.size:=by omega
  have hSj:listed.getD j false=false:=by
   simp only [Array.getD,hlt,dif_pos] at h2 ⊢
   exact h2
  have hdir: ∀e∈directs o,listed.getD e false=true:=by
   intro e he
   simp only [directs,List.mem_map,List.mem_filter] at he
   obtain ⟨x,⟨hx,hb⟩,rfl⟩:=he
   simp only [ho,Option.map_some,Option.getD_some] at h3
   rw [<-Array.all_toList,List.all_eq_true] at h3
   have:=h3 x hx
   rw [hb] at this
   simpa using this
  have hget: ∀k,(listed.setIfInBounds j true).getD k false=(listed.getD k false || decide (k=j)):=by
   intro k
   by_cases e:k=j
   ·subst e;simp [Array.getD,hlt]
   ·have e':j≠k:=fun q=>e q.symm
    simp only [Array.getD_eq_getD_getElem?,Array.getElem?_setIfInBounds_ne e',decide_eq_false e,Bool.or_false]
  obtain ⟨p1,p2,p3,p4,p5⟩:=one_step F (S:=fun k=>listed.getD k false) (S':=fun k=>(listed.setIfInBounds j true).getD k false) hc ho hr hdir hSj hget
  obtain ⟨g1,g2,g3,g4,g5⟩:=F.step j o r ho hr
  have hcl:Closed ops (fun k=>(listed.setIfInBounds j true).getD k false):=by
   intro i o' ho' hSi e he
   simp only [hget] at hSi ⊢
   cases hq:decide (i=j) with
   | true=>
    have:i=j:=by simpa using hq
    subst this
    rw [ho] at ho';cases ho'
    simp only [hdir e he,Bool.true_or]
   | false=>
    rw [hq,Bool.or_false] at hSi
    have:=hc i o' ho' hSi e he
    simp only [this,Bool.true_or]
  have hcount:(listed.setIfInBounds j true).toList.count false<=fuel:=by
   have e1:(listed.setIfInBounds j true).toList=listed.toList.set j true:=by simp
   have e2:listed.toList[j]?=some false:=by
    simp only [Array.getD,hlt,dif_pos] at hSj
    simp [hlt]
    exact hSj
   have: ∀(l:List Bool) (j:Nat),l[j]?=some false->(l.set j true).count false+1=l.count false:=by
    intro l
    induction l with
    | nil=>intro j h;simp at h
    | cons b l ih=>
     intro j h
     cases j with
     | zero=>simp at h;subst h;simp
     | succ j=>
      have:=ih j (by simpa using h)
      cases b <;>simp [List.count_cons] <;>omega
   have:=this listed.toList j e2
   rw [e1];omega
  have hstep:=g1 w G (hS s recs fun k=>listed.getD k false) a (wpAny P .any ops Q fuel (listed.setIfInBounds j true)) Q x.inv p1 p2 (fun t d ht hd=>x.rel t d (by rw [p3 t ht];exact hd)) (fun v w' G' hv hi he=>by
   refine ih _ _ _ G' (by simp [hsz]) hcount hcl ?_
   rw [<-p4] at hv hi he
   refine ⟨?_,?_,hi,x.ext.trans he,fun t d ht=>?_⟩
   ·cases o.dst <;>exact x.defers
   ·cases o.dst <;>simp [Act.put,x.size]
   ·rw [p5] at ht
    rw [g2] at ht
    split at ht
    ·rename_i e
     rw [e] at g3 ⊢
     have:((a.put (some t) v).tmps.getD t undef)=v:=by
      simp only [dstOk,decide_eq_true_eq] at g3
      have:=x.size
      simp [Act.put,Array.getD,show t<a.tmps.size by omega]
     rw [this]
     cases ht
     cases hd:r.eff.d with
     | none=>exact .any
     | some d'=>exact hv d' hd
    ·rename_i e
     have:((a.put o.dst v).tmps.getD t undef)=a.tmps.getD t undef:=by
      cases hdst:o.dst with
      | none=>rfl
      | some u=>
       have hne:u≠t:=fun q=>e (by rw [hdst,q])
       simp [Act.put,Array.getElem?_setIfInBounds_ne hne]
     rw [this]
     exact (x.rel t d ht).ext he)
  unfold wpOp
  rw [ho]
  simp only
  split
  ·rename_i hw;rw [if_pos hw] at hstep;exact .inl hstep
  ·rename_i hw;rw [if_neg hw] at hstep;exact hstep
end
theorem dreg_sound {P:Program} {c:Ctx} {ops:Array Oper} {K:St->Prop} {Q:Exit->Act->World->Prop} {s:St} {a:Act} {w:World} {G:Gh} {id:Nat} (hm:P.follows .mixedOrders=true)
  (x:SR c s a w G) (h:goD Ar.std P (prepDs P c.nt ops (ancs ops.toList []) 0 ops.toList) [] s K) (hq: ∀s a w G,SR c s a w G->K s->Q .normal a w):(Code.region id ops true).wp P Q a w:=by
 obtain ⟨recs,q1,q2,q3,q4⟩:=goD_spec _ 0 [] s h rfl
 have F:Facts P c.nt ops (ancs ops.toList []) s recs:= {
  len:=by simpa using q1
  ok:=q2
  step:=fun j o r ho hr=>by
   obtain ⟨a1,a2,a3,a4,a5,_⟩:=q4 j o r (by simpa using ho) hr
   exact ⟨a1,a2,a3,a4,by simpa using a5⟩
  un:=fun j k o r x y ho hr hx hy hk=>by
   obtain ⟨_,_,_,_,_,a6⟩:=q4 j o r (by simpa using ho) hr
   obtain ⟨⟨x',h1,h2⟩,y',h3,h4⟩:=a6 k (by simpa using hk)
   rw [hx] at h1;cases h1
   rw [List.nil_append,hy] at h3;cases h3
   exact ⟨h2,h4⟩
  anc:=ancs_spec ops.toList [] (fun j=>by simp) (fun j ks h=>by simp at h)}
 refine wp_region_any hm ?_
 obtain ⟨i0,x0⟩:=drew_step x.inv
 have hfalse: ∀k,(Array.replicate ops.size false).getD k false=false:=fun k=>by
  simp only [Array.getD]
  split <;>simp
 have e0:hS s recs (fun k=>(Array.replicate ops.size false).getD k false)=hpF s.hp:=by
  funext i
  exact lastS_none _ _ _ fun j _ h=>by rw [hfalse] at h;cases h
 have e1: ∀t,eS s recs (fun k=>(Array.replicate ops.size false).getD k false) t=look t s.env:=fun t=>lastS_none _ _ _ fun j _ h=>by rw [hfalse] at h;cases h
 refine any_sound F (fun a w G x=>hq _ a w G x q3) ops.size _ a _ G (by simp) (by simp) (fun i o _ h=>by have:=hfalse i;simp only [this] at h;cases h) ⟨x.defers,x.size,by rw [e0];exact i0,by rw [e0];exact x.ext.trans x0,fun t d h=>?_⟩
 rw [e0]
 rw [e1] at h
 exact (x.rel t d h).ext x0
end Go.Proofs.YtfplalbognalkaaGreat.Ab
/- Code and functions. -/
namespace Go.Proofs.YtfplalbognalkaaGreat.Ab
open Go
def prepC (P:Program) (nt:Nat):Code->C
 | .skip=> .skip
 | .region _ ops false=> .reg (ops.toList.map (prepIns P nt ops))
 | .region _ ops true=> .dreg (prepDs P nt ops (ancs ops.toList []) 0 ops.toList)
 | .seq a b=> .seq (prepC P nt a) (prepC P nt b)
 | .cond c a b=>match cvX c with
  | some x=> .cond x (prepC P nt a) (prepC P nt b)
  | none=> .bad
 | .block id a=> .block id (prepC P nt a)
 | .loop a=> .loop (prepC P nt a)
 | .exit id=> .exit id
 | .ret=> .ret
 | _=> .bad
section
variable (A:Ar) (P:Program) (h0:Hp)
def goC:C->(St->Prop)->(Nat->St->Prop)->(St->Prop)->St->Prop
 | .skip,Kn,_,_,s=>Kn s
 | .reg l,Kn,_,_,s=>goOps A P l s Kn
 | .dreg l,Kn,_,_,s=>goD A P l [] s Kn
 | .seq a b,Kn,Ke,Kr,s=>goC a (goC b Kn Ke Kr) Ke Kr s
 | .cond x a b,Kn,Ke,Kr,s=>match s.ev x with
  | some (.e (.v (.bool c)))=>(c=true->goC a Kn Ke Kr s)/\(c=false->goC b Kn Ke Kr s)
  | _=>False
 | .block id a,Kn,Ke,Kr,s=>goC a Kn (fun i s=>if i=id then Kn s else Ke i s) Kr s
 | .loop a,_,Ke,Kr,s=>A.loop h0 (fun Kn s=>goC a Kn Ke Kr s) s
 | .exit id,_,Ke,_,s=>Ke id s
 | .ret,_,_,Kr,s=>Kr s
 | .bad,_,_,_,_=>False
end
theorem rounds_mono {P:Program} {c:Code} {Q:Exit->Act->World->Prop} : ∀(m n:Nat) (a:Act) (w:World),m<=n->Code.rounds P c Q m a w->Code.rounds P c Q n a w
 | 0,_,_,_,_,h=>h.elim
 | m+1,0,_,_,h,_=>absurd h (by omega)
 | m+1,n+1,a,w,h,hr=>by
  rw [rounds_succ] at hr ⊢
  exact Code.wp_mono (fun e a w q=>by
   cases e <;>first | exact rounds_mono m n a w (by omega) q | exact q) hr
theorem SR.weak {c:Ctx} {s s':St} {a:Act} {w:World} {G:Gh} (x:SR c s a w G) (h:Weak c.h s s'): ∃G',SR c s' a w G':=by
 obtain ⟨G',h1,h2,h3⟩:=h w G x.inv
 exact ⟨G',x.defers,x.size,h1,h2 _ _ x.ext,fun t d ht=>by
  obtain ⟨d0,e0,r⟩:=h3 t d ht
  exact r _ (x.rel t d0 e0)⟩
theorem goC_sound {P:Program} {c:Ctx} (hm:P.follows .mixedOrders=true): ∀(code:Code) {Kn:St->Prop} {Ke:Nat->St->Prop} {Kr:St->Prop} {Q:Exit->Act->World->Prop} (s:St) (a:Act) (w:World) (G:Gh),
  goC Ar.std P c.h (prepC P c.nt code) Kn Ke Kr s->SR c s a w G->(∀s a w G,SR c s a w G->Kn s->Q .normal a w)->(∀i s a w G,SR c s a w G->Ke i s->Q (.exit i) a w)->
  (∀s a w G,SR c s a w G->Kr s->Q .ret a w)->code.wp P Q a w:=by
 intro code
 induction code with
 | skip=>intro Kn Ke Kr Q s a w G h x hn he hr;exact wp_skip (hn s a w G x h)
 | region id ops dr=>
  intro Kn Ke Kr Q s a w G h x hn he hr
  cases dr with
  | false=>exact wp_region_list (list_sound hn _ s a w G x h)
  | true=>exact dreg_sound hm x h hn
 | seq y z ihy ihz=>
  intro Kn Ke Kr Q s a w G h x hn he hr
  exact wp_seq (ihy s a w G h x (fun s a w G x h=>ihz s a w G h x hn he hr) he hr)
 | cond y p q ihp ihq=>
  intro Kn Ke Kr Q s a w G h x hn he hr
  simp only [prepC] at h
  split at h
  ·rename_i y' hy
   simp only [goC] at h
   split at h
   ·rename_i c' hc'
    obtain ⟨e,_⟩:=rv_v (x.rels y y' _ hy hc')
    refine wp_cond_split e (fun ht=>?_) fun hf=>?_
    ·exact ihp s a w G (h.1 ht) x hn he hr
    ·exact ihq s a w G (h.2 hf) x hn he hr
   ·exact h.elim
  ·exact h.elim
 | block id y ih=>
  intro Kn Ke Kr Q s a w G h x hn he hr
  refine wp_block (ih s a w G h x hn (fun i s a w G x h=>?_) hr)
  simp only [Exit.inBlock]
  split
  ·rename_i e;rw [if_pos e] at h;exact hn s a w G x h
  ·rename_i e;rw [if_neg e] at h;exact he i s a w G x h
 | loop y ih=>
  intro Kn Ke Kr Q s a w G h x hn he hr
  obtain ⟨I,⟨n,s1,hw,hi⟩,hs⟩:=h
  obtain ⟨G1,x1⟩:=x.weak hw
  have key: ∀n s a w G,SR c s a w G->I n s->Code.rounds P y Q (n+1) a w:=by
   intro n
   induction n using Nat.strongRecOn with
   | _ n ihn=>
    intro s a w G x hi
    rw [rounds_succ]
    refine ih s a w G (hs n s hi) x (fun s1 a1 w1 G1 x1 h1=>?_) (fun i s a w G x h=>he i s a w G x h) (fun s a w G x h=>hr s a w G x h)
    obtain ⟨m,s2,hlt,hw,hi2⟩:=h1
    obtain ⟨G2,x2⟩:=x1.weak hw
    exact rounds_mono (m+1) n _ _ hlt (ihn m hlt s2 a1 w1 G2 x2 hi2)
  exact wp_loop_rounds (n+1) (key n s1 a w G1 x1 hi)
 | exit id=>intro Kn Ke Kr Q s a w G h x hn he hr;exact wp_exit (he id s a w G x h)
 | ret=>intro Kn Ke Kr Q s a w G h x hn he hr;exact wp_ret (hr s a w G x h)
 | _=>intro Kn Ke Kr Q s a w G h x hn he hr;exact h.elim
def prepRV (P:Program):List ResultVar->Option (List RV)
 | []=>some []
 | .tmp t::r=>(prepRV P r).map (.tmp t:: ·)
 | .cell a t::r=>(P.underlying t).bind fun _=>(prepRV P r).map (.cell a (isAggB P t) (P.cellsOf t):: ·)
instance {n:Nat} :OfNat X n:=⟨.s n⟩
abbrev ZA (t:Nat) (i:I):Ins:=⟨some t,none,i⟩
abbrev ZN (i:I):Ins:=⟨none,none,i⟩
abbrev ZM (t s:Nat):Ins:=⟨some t,none,.mov (.s s)⟩
abbrev ZL (t s:Nat):Ins:=⟨some t,none,.load false 1 (.s s)⟩
abbrev ZE (t k s:Nat):Ins:=⟨some t,none,.fadr k (.s s)⟩
abbrev ZC (t f:Nat) (xs:List X):Ins:=⟨some t,none,.call f xs⟩
abbrev ZF0:I:= .mov (.c (.bool false))
abbrev ZT0:I:= .mov (.c (.bool true))
abbrev ZT (t g:Nat) (i:I):Ins:=⟨some t,some (g,true),i⟩
abbrev ZF (t g:Nat) (i:I):Ins:=⟨some t,some (g,false),i⟩
structure F where
 nt:Nat
 res:List RV
 code:C
 deriving Inhabited
def prepF (P:Program) (fn:FuncId):Option F:=
 (P.funcs[fn]?).bind fun f=>(f.body).bind fun b=>(prepRV P f.results.toList).map fun r=>⟨f.ntmps,r,prepC P f.ntmps b⟩
def resK (s:St):List RV->(Prop->List D->Prop)->Prop
 | [],K=>K True []
 | .tmp t::r,K=>evG true (look t s.env) fun o d=>resK s r fun o' ds=>K (o/\o') (d::ds)
 | .cell t agg n::r,K=>match look t s.env with
  | some (.ref i off)=>match hpF s.hp i with
   | .box ds=>resK s r fun o' es=>if agg then K (off+n<=ds.length/\o') (.agg ((ds.drop off).take n)::es) else K (off<ds.length/\o') (ds.getD off default::es)
   | _=>False
  | _=>False
def tupD:List D->D
 | [d]=>d
 | ds=> .tup ds
def envOf:Nat->List D->List (Nat×D)
 | _, []=> []
 | k,d::r=>(k,d)::envOf (k+1) r
def finK (res:List RV) (R:D->List O->Prop) (s:St):Prop:=resK s res fun o ds=>o/\R (tupD ds) s.hp
def goF (A:Ar) (P:Program) (f:F) (args:List D) (l0:List O) (R:D->List O->Prop):Prop:=
 args.length<=f.nt/\goC A P (hpF l0) f.code (finK f.res R) (fun _ _=>False) (finK f.res R) ⟨envOf 0 args,l0⟩
def CallOK (P:Program) (fn:FuncId) (args:List D) (l0:List O) (R:D->List O->Prop):Prop:=
 ∀(w:World) (G:Gh) (vs:Array Value),Inv w G (hpF l0)->vs.size=args.length->(∀(j:Nat) v d,vs[j]?=some v->args[j]?=some d->Rv w G (hpF l0) v d)->
  Calls P fn vs w fun e w'=> ∃v d l' G',e= .returned v/\R d l'/\Rv w' G' (hpF l') v d/\Inv w' G' (hpF l')/\Ext w G (hpF l0) w' G' (hpF l')
theorem look_envOf: ∀(ds:List D) (k t:Nat) (d:D),look t (envOf k ds)=some d->k<=t/\ds[t-k]?=some d
 | [],_,_,_,h=>by simp [envOf,look] at h
 | x::r,k,t,d,h=>by
  simp only [envOf,look] at h
  split at h
  ·rename_i e;subst e;simpa using h
  ·rename_i e
   obtain ⟨h1,h2⟩:=look_envOf r (k+1) t d h
   refine ⟨by omega,?_⟩
   rw [show t-k=t-(k+1)+1 by omega]
   simpa using h2
theorem res_spec {P:Program} {s:St} {c:Ctx} {a:Act} {w:World} {G:Gh} (x:SR c s a w G): ∀(l:List ResultVar) (res:List RV) (K:Prop->List D->Prop),prepRV P l=some res->resK s res K->
  ∃o ds vs,K o ds/\(o->(l.mapM (m:=Sem) fun | .tmp t=>pure (a.tmps.getD t undef) | .cell b t=>do loadVar t (<-asAddr (a.tmps.getD b undef))).run P w= .ok vs w/\vs.length=ds.length/\
   ∀(j:Nat) v d,vs[j]?=some v->ds[j]?=some d->Rv w G (hpF s.hp) v d):=by
 intro l
 induction l with
 | nil=>
  intro res K hp h
  simp only [prepRV,Option.some.injEq] at hp
  subst hp
  exact ⟨_,_, [],h,fun _=>⟨by simp,rfl,fun j v d hj=>by simp at hj⟩⟩
 | cons y l ih=>
  intro res K hp h
  cases y with
  | tmp t=>
   simp only [prepRV,Option.map_eq_some_iff] at hp
   obtain ⟨r,hr,rfl⟩:=hp
   simp only [resK] at h
   obtain ⟨o1,d1,h1,h2⟩:=evG_spec h
   obtain ⟨o,ds,vs,k1,k2⟩:=ih r _ hr h1
   refine ⟨_,_,a.tmps.getD t undef::vs,k1,fun ⟨p1,p2⟩=>?_⟩
   obtain ⟨q1,q2,q3⟩:=k2 p2
   refine ⟨?_,by simp [q2],fun j v d hv hd=>?_⟩
   ·rw [List.mapM_cons]
    simp only [Sem.run_bind,Sem.run_pure,Result.andThen]
    rw [q1]
   ·cases j with
    | zero=>
     simp only [List.getElem?_cons_zero,Option.some.injEq] at hv hd
     subst hv;subst hd
     exact h2 (fun d' e=>x.rel t d' e) rfl p1
    | succ j=>exact q3 j v d (by simpa using hv) (by simpa using hd)
  | cell b t=>
   simp only [prepRV,Option.bind_eq_some_iff,Option.map_eq_some_iff] at hp
   obtain ⟨u,hu,r,hr,rfl⟩:=hp
   simp only [resK] at h
   split at h
   case h_2=>exact h.elim
   rename_i i off hb
   split at h
   case h_2=>exact h.elim
   rename_i bs hbx
   obtain ⟨o,ds,vs,k1,k2⟩:=ih r _ hr h
   obtain ⟨ev,bs',e'⟩:=rv_ref (x.rel b _ hb)
   obtain ⟨u',hcells,hrel⟩:=box_cells x.inv hbx
   have hev:(asAddr (a.tmps.getD b undef)).run P w= .ok ⟨G.blk i,off,none⟩ w:=by rw [ev];rfl
   have hun: ∃d,P.underlying t=some d:=⟨u,hu⟩
   cases hag:isAggB P t with
   | true=>
    rw [hag] at k1
    simp only [if_true] at k1
    refine ⟨_,_,.agg ((List.range (P.cellsOf t)).map fun j=>u' (off+j)).toArray::vs,k1,fun ⟨p1,p2⟩=>?_⟩
    obtain ⟨q1,q2,q3⟩:=k2 p2
    refine ⟨?_,by simp [q2],fun j v d hv hd=>?_⟩
    ·rw [List.mapM_cons]
     simp only [Sem.run_bind,Sem.run_pure,Result.andThen,hev]
     rw [run_loadVar_agg (u:=fun j=>u' (off+j)) hag rfl hun (fun j hj=>hcells (off+j) (by omega))]
     simp only
     rw [q1]
    ·cases j with
     | zero=>
      simp only [List.getElem?_cons_zero,Option.some.injEq] at hv hd
      subst hv;subst hd
      refine rv_range (by simp;omega) fun j d hd=>?_
      rw [List.getElem?_take] at hd
      split at hd
      ·exact hrel (off+j) d (by simpa using hd)
      ·cases hd
     | succ j=>exact q3 j v d (by simpa using hv) (by simpa using hd)
   | false=>
    rw [hag] at k1
    simp only [Bool.false_eq_true,if_false] at k1
    refine ⟨_,_,u' off::vs,k1,fun ⟨p1,p2⟩=>?_⟩
    obtain ⟨q1,q2,q3⟩:=k2 p2
    refine ⟨?_,by simp [q2],fun j v d hv hd=>?_⟩
    ·rw [List.mapM_cons]
     simp only [Sem.run_bind,Sem.run_pure,Result.andThen,hev]
     rw [run_loadVar_one hag hun (hcells off p1)]
     simp only
     rw [q1]
    ·cases j with
     | zero=>
      simp only [List.getElem?_cons_zero,Option.some.injEq] at hv hd
      subst hv;subst hd
      exact (hrel off _ (by simp [List.getD,p1])).1
     | succ j=>exact q3 j v d (by simpa using hv) (by simpa using hd)
theorem fin_spec {P:Program} {s:St} {c:Ctx} {a:Act} {w:World} {G:Gh} {fn:Func} {res:List RV} {R:D->List O->Prop} (x:SR c s a w G) (hr:prepRV P fn.results.toList=some res) (h:finK res R s):
  ∃v d,(results fn a.tmps).run P w= .ok v w/\R d s.hp/\Rv w G (hpF s.hp) v d:=by
 obtain ⟨o,ds,vs,⟨p1,p2⟩,p3⟩:=res_spec x fn.results.toList res _ hr h
 obtain ⟨q1,q2,q3⟩:=p3 p1
 have hm:(fn.results.mapM (m:=Sem) fun | .tmp t=>pure (a.tmps.getD t undef) | .cell b t=>do loadVar t (<-asAddr (a.tmps.getD b undef))).run P w= .ok vs.toArray w:=by
  rw [Array.mapM_eq_mapM_toList]
  simp only [map_eq_pure_bind,Sem.run_bind,q1,Result.andThen,Sem.run_pure]
 have hres:(results fn a.tmps).run P w= .ok (if h:vs.toArray.size=1 then vs.toArray[0] else .tuple vs.toArray) w:=by
  unfold results
  simp only [Sem.run_bind,Sem.run_pure,Result.andThen]
  erw [hm]
 refine ⟨_,_,hres,p2,?_⟩
 match ds,vs,q2,q3 with
 | [d], [v],_,q3=>exact q3 0 v d (by simp) (by simp)
 | [], [],_,q3=>exact .tup (by simp) (fun j c d hc hd=>q3 j c d (by simpa using hc) hd)
 | d::d'::ds,v::v'::vs,q2,q3=>exact .tup (by simpa using q2) (fun j c d hc hd=>q3 j c d (by simpa using hc) hd)
theorem callOK {P:Program} (hm:P.follows .mixedOrders=true) {fn:FuncId} {f:F} (hf:prepF P fn=some f) {args:List D} {l0:List O} {R:D->List O->Prop} (h:goF Ar.std P f args l0 R):CallOK P fn args l0 R:=by
 intro w G vs hi hs hr
 simp only [prepF,Option.bind_eq_some_iff,Option.map_eq_some_iff] at hf
 obtain ⟨fu,h1,b,h2,r,h3,rfl⟩:=hf
 obtain ⟨hn,hc⟩:=h
 simp only at hn hc
 let c:Ctx:=⟨w,G,hpF l0,fu.ntmps⟩
 have x:SR c ⟨envOf 0 args,l0⟩ {tmps:=vs++Array.replicate (fu.ntmps-vs.size) undef,defers:= []} w G:= {
  defers:=rfl
  size:=by simp [c];omega
  inv:=hi
  ext:=Ext.refl _ _ _
  rel:=fun t d ht=>by
   obtain ⟨_,hd⟩:=look_envOf args 0 t d ht
   rw [Nat.sub_zero] at hd
   have hlt:t<args.length:=(List.getElem?_eq_some_iff.1 hd).1
   have hv:(vs++Array.replicate (fu.ntmps-vs.size) undef).getD t undef=vs[t]'(by omega):=by
    simp [Array.getD,show t<vs.size by omega]
    intro h;omega
   show Rv w G _ ((vs++Array.replicate (fu.ntmps-vs.size) undef).getD t undef) d
   rw [hv]
   exact hr t _ d (by simp [show t<vs.size by omega]) hd}
 refine calls_of_wp h1 h2 (goC_sound (c:=c) hm b _ _ w G hc x ?_ ?_ ?_)
 ·intro s a w' G' x' h'
  obtain ⟨v,d,e1,e2,e3⟩:=fin_spec x' h3 h'
  exact ⟨x'.defers,v,e1,v,d,s.hp,G',rfl,e2,e3,x'.inv,x'.ext⟩
 ·intro i s a w' G' x' h';exact h'.elim
 ·intro s a w' G' x' h'
  obtain ⟨v,d,e1,e2,e3⟩:=fin_spec x' h3 h'
  exact ⟨x'.defers,v,e1,v,d,s.hp,G',rfl,e2,e3,x'.inv,x'.ext⟩
end Go.Proofs.YtfplalbognalkaaGreat.Ab
