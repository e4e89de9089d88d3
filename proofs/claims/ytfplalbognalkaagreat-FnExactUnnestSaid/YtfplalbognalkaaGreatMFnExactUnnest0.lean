/- The abstract view of memory: what a value of the machine reads as, and what a step may change. -/
import Derived.Orders
import Derived.Tactics
import Derived.Laws.World
import Derived.Laws.Sem
import Derived.Below
import Derived.Laws.Cells
import Derived.ChangeKeysEq
import Derived.Laws.IdiomCopy
import Derived.Laws.Small
import Derived.Laws.Strings
import Derived.Laws.StructEq
import Derived.Laws.Slices
import Derived.Laws.BytesString
set_option linter.unusedSimpArgs false
set_option linter.unusedVariables false
set_option linter.unnecessarySimpa false
set_option linter.constructorNameAsVariable false
set_option maxRecDepth 100000
set_option maxHeartbeats 16000000
namespace Go.Proofs.YtfplalbognalkaaGreat.Ab
open Go
inductive E where
 | v (x:Value)
 | sl (es:List (List E))
 | iv (t:TypeId) (x:E)
 | ia (t:TypeId) (ds:List E)
 | fs (j:Nat) (es:List (List E))
 deriving Inhabited
inductive D where
 | e (x:E)
 | agg (ds:List D)
 | own (i:Nat) (es:List (List E))
 | zs
 | bs (i off n k:Nat)
 | rp (ds:List E)
 | ref (i off:Nat)
 | refs (i off:Nat)
 | tup (ds:List D)
 | when (g:Bool) (d:D)
 | fn (f:Fn) (first caps:List D)
 | vec (i n k:Nat)
 | vref (i off:Nat)
 | mp (i:Nat)
 | rv (i:Nat)
 | e0
 | any
 deriving Inhabited
inductive O where
 | dead
 | box (ds:List D)
 | front (n k:Nat)
 | vec (b:Bool) (k:Nat) (ds:List D)
 | gone
 | smap (l:List (List UInt8×E))
 | ids (m:Nat)
 | res (R:World->Value->List Nat->Prop)
 deriving Inhabited
structure Gh where
 pub:Nat->Nat->Prop
 blk:Nat->Nat
 sg:Nat->Option (Nat×Nat)
 rv:Nat->Value
 rb:Nat->List Nat
def Gh.re (G:Gh) (t:Nat->Nat):Gh:=⟨G.pub,fun i=>G.blk (t i),G.sg,fun i=>G.rv (t i),fun i=>G.rb (t i)⟩
abbrev Hp:=Nat->O
def O.has:O->Bool
 | .box _=>true
 | .front n _=>0<n
 | .vec b _ _=>b
 | .gone=>false
 | .smap _=>true
 | .dead | .ids _ | .res _=>false
def maxN:Nat:=140737488355328
def okV:Value->Bool
 | .agg _ | .tuple _=>false
 | .string s=>decide (s.size<=maxN)
 | .int k n=>decide (k.min<=n/\n<=k.max)
 | _=>true
theorem okV.cell {x:Value} (h:okV x=true):x.oneCell'=true:=by
 cases x <;>first | rfl | simp [okV] at h
section
variable (w:World) (G:Gh)
inductive RvE:Value->E->Prop
 | v {x} (h:okV x=true):RvE x (.v x)
 | nils {a:Option Addr} {cap:Nat} (h:a=none->cap=0):RvE (.slice a 0 cap) (.sl [])
 | sl {b off n cap k es} (u:Nat->Value) (hn:es.length=n) (hc:n<=cap) (hm:n<=maxN) (hk: ∀e∈es,e.length=k)
   (hp: ∀j,j<n * k->G.pub b (off+j)/\w.cell? ⟨b,off+j,none⟩=some (u j))
   (hr: ∀j d,es.flatten[j]?=some d->RvE (u j) d):RvE (.slice (some ⟨b,off,none⟩) n cap) (.sl es)
 | iv {t x d} (h:RvE x d):RvE (.iface t x) (.iv t d)
 | ia {t} {cs:Array Value} {ds:List E} (hl:cs.size=ds.length) (h: ∀(j:Nat) c d,cs[j]?=some c->ds[j]?=some d->RvE c d):
   RvE (.iface t (.agg cs)) (.ia t ds)
 | fs {i b n cap k es z} (u:Nat->Value) (hs:G.sg i=some (b,z)) (hz:cap * k<=z) (hn:es.length=n) (hc:n<=cap) (hm:n<=maxN) (hk: ∀e∈es,e.length=k)
   (hp: ∀j,j<n * k->G.pub b (0+j)/\w.cell? ⟨b,0+j,none⟩=some (u j))
   (hr: ∀j d,es.flatten[j]?=some d->RvE (u j) d):RvE (.slice (some ⟨b,0,none⟩) n cap) (.fs i es)
 | fnils {i} {a:Option Addr} {cap:Nat} (h:a=none->cap=0):RvE (.slice a 0 cap) (.fs i [])
end
theorem RvE.cell {w G x d} (h:RvE w G x d):x.oneCell'=true:=by
 cases h <;>first | exact okV.cell (by assumption) | rfl
theorem RvE.mono {w w':World} {G G':Gh} (hw: ∀b o,G.pub b o->G'.pub b o/\w'.cell? ⟨b,o,none⟩=w.cell? ⟨b,o,none⟩) (hg: ∀j b,G.sg j=some b->G'.sg j=some b)
  {x d} (h:RvE w G x d):RvE w' G' x d:=by
 induction h with
 | v h=>exact .v h
 | nils h=>exact .nils h
 | sl u hn hc hm hk hp hr ih=>
  exact .sl u hn hc hm hk (fun j hj=>⟨(hw _ _ (hp j hj).1).1,((hw _ _ (hp j hj).1).2).trans (hp j hj).2⟩) ih
 | iv h ih=>exact .iv ih
 | ia hl h ih=>exact .ia hl ih
 | fs u hs hz hn hc hm hk hp hr ih=>
  exact .fs u (hg _ _ hs) hz hn hc hm hk (fun j hj=>⟨(hw _ _ (hp j hj).1).1,((hw _ _ (hp j hj).1).2).trans (hp j hj).2⟩) ih
 | fnils h=>exact .fnils h
theorem RvE.unfs {w G x i es} (h:RvE w G x (.fs i es)):RvE w G x (.sl es):=by
 cases h with
 | fs u hs hz hn hc hm hk hp hr=>exact .sl u hn hc hm hk hp hr
 | fnils h=>exact .nils h
def D.leaf:D->Bool
 | .agg _ | .tup _ | .when _ _ | .any=>false
 | _=>true
section
variable (w:World) (G:Gh) (h:Hp)
def TokOK (i n:Nat) (v:Value) (k:Nat):Prop:=
 ∃N,h i= .front N k/\n<=N/\(n=N->(n=0/\ ∃a,v= .slice a 0 0/\ ∀x,a=some x->x.spot=none)\/
  (0<n/\ ∃cap cs T fr,v= .slice (some ⟨G.blk i,0,none⟩) n cap/\w.heap[G.blk i]?=some (.cells cs T fr)/\cap * k<=cs.size))
inductive Rv:Value->D->Prop
 | e {x d} (h:RvE w G x d):Rv x (.e d)
 | agg {cs:Array Value} {ds:List D} (hl:cs.size=ds.length) (h1: ∀(j:Nat) c,cs[j]?=some c->c.oneCell'=true)
   (hr: ∀(j:Nat) c d,cs[j]?=some c->ds[j]?=some d->Rv c d):Rv (.agg cs) (.agg ds)
 | own {x i k es} (hx:RvE w G x (.sl es)) (hk: ∀e∈es,e.length=k) (ht:TokOK w G h i es.length x k):Rv x (.own i es)
 | zs {a:Option Addr} (ha: ∀x,a=some x->x.spot=none):Rv (.slice a 0 0) .zs
 | bs {i off n cap k ds b o} (hb:h i= .box ds) (hc:n<=cap) (hl:n=0\/(b=G.blk i/\o=off/\off+cap * k<=ds.length)) (hm:n<=maxN):Rv (.slice (some ⟨b,o,none⟩) n cap) (.bs i off n k)
 | rp {b off ds} (u:Nat->Value) (hp: ∀j,j<ds.length->G.pub b (off+j)/\w.cell? ⟨b,off+j,none⟩=some (u j))
   (hr: ∀j d,ds[j]?=some d->RvE w G (u j) d):Rv (.pointer (some ⟨b,off,none⟩)) (.rp ds)
 | ref {i off ds} (hb:h i= .box ds):Rv (.pointer (some ⟨G.blk i,off,none⟩)) (.ref i off)
 | refs {i off ds} (hb:h i= .box ds):Rv (.pointer (some ⟨G.blk i,off,none⟩)) (.refs i off)
 | tup {cs:Array Value} {ds:List D} (hl:cs.size=ds.length) (hr: ∀(j:Nat) c d,cs[j]?=some c->ds[j]?=some d->Rv c d):Rv (.tuple cs) (.tup ds)
 | when {x g d} (hr:g=true->Rv x d) (hu:g=false->x=undef):Rv x (.when g d)
 | fn {f} {first caps:Array Value} {ds es:List D} (hl:first.size=ds.length) (hr: ∀(j:Nat) c d,first[j]?=some c->ds[j]?=some d->Rv c d)
   (hl':caps.size=es.length) (hr': ∀(j:Nat) c d,caps[j]?=some c->es[j]?=some d->Rv c d):Rv (.func f first caps) (.fn f ds es)
 | vec {i n k a cap} (hd:h i≠ .dead) (hm:n<=maxN) (hc:n<=cap) (hv: ∀b k' ds,h i= .vec b k' ds->k'=k/\n * k<=ds.length/\(b=false->n=0/\cap=0/\ ∀x,a=some x->x.spot=none)/\
   (b=true->a=some ⟨G.blk i,0,none⟩/\ ∃cs T fr,w.heap[G.blk i]?=some (.cells cs T fr)/\cap * k<=cs.size)):Rv (.slice a n cap) (.vec i n k)
 | vref {i off x} (hd:h i≠ .dead) (hv: ∀b k ds,h i= .vec b k ds->b=true/\x=G.blk i):Rv (.pointer (some ⟨x,off,none⟩)) (.vref i off)
 | mp {i l} (hb:h i= .smap l):Rv (.map (some (G.blk i))) (.mp i)
 | rv {i R} (hb:h i= .res R) (hc:(G.rv i).oneCell'=true):Rv (G.rv i) (.rv i)
 | e0 {a:Addr} {cap:Nat} :Rv (.slice (some a) 0 cap) .e0
 | any {x} :Rv x .any
structure XOk:Prop where
 sgs: ∀j b,G.sg j=some b->b.1<w.heap.size/\(∀i,(h i).has=true->G.blk i≠b.1)/\ ∃cs T,w.heap[b.1]?=some (.cells cs T (0,0))/\b.2<=cs.size
 sgi: ∀i j b c,G.sg i=some b->G.sg j=some c->b.1=c.1->i=j
 ids: ∀i m,h i= .ids m-> ∀j,m<=j->G.sg j=none
 idu: ∀i j m m',h i= .ids m->h j= .ids m'->i=j
 res: ∀i R,h i= .res R->(∀w':World,(∀b∈G.rb i,w'.heap[b]?=w.heap[b]?)->R w' (G.rv i) (G.rb i))/\
  ∀b∈G.rb i,b<w.heap.size/\(∀o,¬G.pub b o)/\(∀j c,G.sg j=some c->c.1≠b)/\(∀j,(h j).has=true->G.blk j≠b)/\ ∀j R',h j= .res R'->b∈G.rb j->i=j
structure Inv:Prop where
 lt: ∀i,(h i).has=true->G.blk i<w.heap.size
 inj: ∀i j,(h i).has=true->(h j).has=true->G.blk i=G.blk j->i=j
 publt: ∀b o,G.pub b o->b<w.heap.size
 box: ∀i ds,h i= .box ds->(∀o,¬G.pub (G.blk i) o)/\ ∃cs T,w.heap[G.blk i]?=some (.cells cs T (0,0))/\cs.size=ds.length/\
  ∀(j:Nat) c d,cs[j]?=some c->ds[j]?=some d->Rv w G h c d/\c.oneCell'=true
 front: ∀i n k,h i= .front n k->0<n->(∃cs T,w.heap[G.blk i]?=some (.cells cs T (0,0)))/\
  (∀o,n * k<=o-> ¬G.pub (G.blk i) o)
 vec: ∀i b k ds,h i= .vec b k ds->(b=false->ds= [])/\(b=true->(∀o,¬G.pub (G.blk i) o)/\ ∃cs T,w.heap[G.blk i]?=some (.cells cs T (0,0))/\ds.length<=cs.size/\
  ∀(j:Nat) c d,cs[j]?=some c->ds[j]?=some d->Rv w G h c d/\c.oneCell'=true)
 smap: ∀i l,h i= .smap l->(∀o,¬G.pub (G.blk i) o)/\ ∃es clock,w.heap[G.blk i]?=some (.map es clock)/\es.size=l.length/\
  ∀(j:Nat) e p,es[j]?=some e->l[j]?=some p->e.key= .string ⟨⟨p.1⟩⟩/\RvE w G e.val p.2
 x:XOk w G h
end
structure Ext (w:World) (G:Gh) (h:Hp) (w':World) (G':Gh) (h':Hp):Prop where
 os:w'.os=w.os
 tape:w'.tape=w.tape
 output:w'.output=w.output
 size:w.heap.size<=w'.heap.size
 pub: ∀b o,G.pub b o->G'.pub b o/\w'.cell? ⟨b,o,none⟩=w.cell? ⟨b,o,none⟩
 box: ∀i ds,h i= .box ds->(∃ds',h' i= .box ds'/\ds'.length=ds.length)/\G'.blk i=G.blk i
 tok: ∀i n k,h i= .front n k-> ∃n',h' i= .front n' k/\n<=n'/\(n'=n->0<n->G'.blk i=G.blk i/\w'.shape? (G.blk i)=w.shape? (G.blk i))
 others: ∀b,b<w.heap.size->(∀i,(h i).has=true->G.blk i≠b)->(∀i R,h i= .res R->b∉G.rb i)->w'.heap[b]?=w.heap[b]?
 new: ∀i,(h' i).has=true->(∃j,(h j).has=true/\G'.blk i=G.blk j)\/w.heap.size<=G'.blk i
 pubnew: ∀b o,G'.pub b o->G.pub b o\/w.heap.size<=b\/ ∃i,(h i).has=true/\G.blk i=b
 vec: ∀i b k ds,h i= .vec b k ds->h' i= .gone\/ ∃ds',h' i= .vec b k ds'/\ds.length<=ds'.length/\(b=true->G'.blk i=G.blk i/\w'.shape? (G.blk i)=w.shape? (G.blk i))
 gone: ∀i,h i= .gone->h' i= .gone
 smap: ∀i l,h i= .smap l->(∃l',h' i= .smap l')/\G'.blk i=G.blk i
 sgm: ∀j b,G.sg j=some b->G'.sg j=some b
 idm: ∀i m,h i= .ids m-> ∃m',h' i= .ids m'
 rvm: ∀i R,h i= .res R->(∃R',h' i= .res R')/\G'.rv i=G.rv i
 rbnew: ∀i R,h' i= .res R-> ∀b∈G'.rb i,(∃j R',h j= .res R'/\b∈G.rb j)\/w.heap.size<=b
 idn: ∀i m,h' i= .ids m-> ∃i' m',h i'= .ids m'
 sgn:(∀i m,h i≠ .ids m)->G'.sg=G.sg
 sgw: ∀j b,G'.sg j=some b->G.sg j=some b\/w.heap.size<=b.1\/ ∃i,(h i).has=true/\G.blk i=b.1
theorem Ext.refl (w:World) (G:Gh) (h:Hp):Ext w G h w G h:=
 ⟨rfl,rfl,rfl,Nat.le_refl _,fun _ _ p=>⟨p,rfl⟩,fun _ ds e=>⟨⟨ds,e,rfl⟩,rfl⟩,fun _ n _ e=>⟨n,e,Nat.le_refl _,fun _ _=>⟨rfl,rfl⟩⟩,fun _ _ _ _=>rfl,
  fun i e=> .inl ⟨i,e,rfl⟩,fun _ _ p=> .inl p,fun _ _ _ ds e=> .inr ⟨ds,e,Nat.le_refl _,fun _=>⟨rfl,rfl⟩⟩,fun _ e=>e,fun _ l e=>⟨⟨l,e⟩,rfl⟩,fun _ _ e=>e,fun _ m e=>⟨m,e⟩,fun _ R e=>⟨⟨R,e⟩,rfl⟩,fun i R e b hb=> .inl ⟨i,R,e,hb⟩,fun i m e=>⟨i,m,e⟩,fun _=>rfl,fun _ _ e=> .inl e⟩
theorem Ext.trans {w G h w' G' h' w'' G'' h''} (a:Ext w G h w' G' h') (b:Ext w' G' h' w'' G'' h''):Ext w G h w'' G'' h'' where
 os:=b.os.trans a.os
 tape:=b.tape.trans a.tape
 output:=b.output.trans a.output
 size:=Nat.le_trans a.size b.size
 pub:=fun x o p=>⟨(b.pub _ _ (a.pub _ _ p).1).1,((b.pub _ _ (a.pub _ _ p).1).2).trans (a.pub _ _ p).2⟩
 box:=fun i ds e=>by
  obtain ⟨⟨ds',e',l'⟩,g'⟩:=a.box i ds e
  obtain ⟨⟨ds'',e'',l''⟩,g''⟩:=b.box i ds' e'
  exact ⟨⟨ds'',e'',l''.trans l'⟩,g''.trans g'⟩
 tok:=fun i n k e=>by
  obtain ⟨n',e',l',g'⟩:=a.tok i n k e
  obtain ⟨n'',e'',l'',g''⟩:=b.tok i n' k e'
  refine ⟨n'',e'',Nat.le_trans l' l'',fun q q0=>?_⟩
  have q1:n'=n:=by omega
  have q2:n''=n':=by omega
  obtain ⟨x1,x2⟩:=g' q1 q0
  obtain ⟨y1,y2⟩:=g'' q2 (by omega)
  exact ⟨y1.trans x1,by rw [<-x2,<-x1,y2]⟩
 others:=fun x hx ho hq=>by
  have e1:=a.others x hx ho hq
  refine (b.others x (Nat.lt_of_lt_of_le hx a.size) (fun i hi he=>?_) fun i R hi hb=>?_).trans e1
  ·rcases a.new i hi with ⟨j,h1,h2⟩ | h1
   ·exact ho j h1 (by rw [<-h2];exact he)
   ·omega
  ·rcases a.rbnew i R hi x hb with ⟨j,R',h1,h2⟩ | h1
   ·exact hq j R' h1 h2
   ·omega
 new:=fun i hi=>by
  rcases b.new i hi with ⟨j,h1,h2⟩ | h1
  ·rcases a.new j h1 with ⟨j',h3,h4⟩ | h3
   ·exact .inl ⟨j',h3,h2.trans h4⟩
   ·exact .inr (by rw [h2];exact h3)
  ·exact .inr (Nat.le_trans a.size h1)
 pubnew:=fun x o p=>by
  rcases b.pubnew x o p with h1 | h1 | ⟨i,h1,h2⟩
  ·exact a.pubnew x o h1
  ·exact .inr (.inl (Nat.le_trans a.size h1))
  ·rcases a.new i h1 with ⟨j,h3,h4⟩ | h3
   ·exact .inr (.inr ⟨j,h3,by rw [<-h4];exact h2⟩)
   ·exact .inr (.inl (by rw [<-h2];exact h3))
 vec:=fun i x k ds e=>by
  rcases a.vec i x k ds e with g | ⟨ds',e',l',g'⟩
  ·exact .inl (b.gone i g)
  ·rcases b.vec i x k ds' e' with g | ⟨ds'',e'',l'',g''⟩
   ·exact .inl g
   ·refine .inr ⟨ds'',e'',Nat.le_trans l' l'',fun q=>?_⟩
    obtain ⟨x1,x2⟩:=g' q
    obtain ⟨y1,y2⟩:=g'' q
    exact ⟨y1.trans x1,by rw [<-x2,<-x1,y2]⟩
 gone:=fun i e=>b.gone i (a.gone i e)
 smap:=fun i l e=>by
  obtain ⟨⟨l',e'⟩,g'⟩:=a.smap i l e
  obtain ⟨h'',g''⟩:=b.smap i l' e'
  exact ⟨h'',g''.trans g'⟩
 sgm:=fun j x e=>b.sgm j x (a.sgm j x e)
 idm:=fun i m e=>by
  obtain ⟨m',e'⟩:=a.idm i m e
  exact b.idm i m' e'
 rvm:=fun i R e=>by
  obtain ⟨⟨R',e'⟩,g'⟩:=a.rvm i R e
  obtain ⟨h'',g''⟩:=b.rvm i R' e'
  exact ⟨h'',g''.trans g'⟩
 rbnew:=fun i R e x hx=>by
  rcases b.rbnew i R e x hx with ⟨j,R',h1,h2⟩ | h1
  ·exact a.rbnew j R' h1 x h2
  ·exact .inr (Nat.le_trans a.size h1)
 idn:=fun i m e=>by
  obtain ⟨i',m',e'⟩:=b.idn i m e
  exact a.idn i' m' e'
 sgn:=fun hn=>(b.sgn fun i m e=>by
  obtain ⟨i',m',e'⟩:=a.idn i m e
  exact hn i' m' e').trans (a.sgn hn)
 sgw:=fun k x e=>by
  rcases b.sgw k x e with h1 | h1 | ⟨i,h1,h2⟩
  ·exact a.sgw k x h1
  ·exact .inr (.inl (Nat.le_trans a.size h1))
  ·rcases a.new i h1 with ⟨j,h3,h4⟩ | h3
   ·exact .inr (.inr ⟨j,h3,by rw [<-h4];exact h2⟩)
   ·exact .inr (.inl (by rw [<-h2];exact h3))
theorem shape_size {w:World} {b:Nat} {cs:Array Value} {T:TypeId} {fr:Nat×Nat} (h:w.heap[b]?=some (.cells cs T fr)):w.shape? b=some (T,cs.size):=by
 simp [World.shape?,h]
theorem of_shape {w:World} {b:Nat} {T:TypeId} {n:Nat} (h:w.shape? b=some (T,n)): ∃cs fr,w.heap[b]?=some (.cells cs T fr)/\cs.size=n:=by
 unfold World.shape? at h
 split at h
 ·rename_i c e f hb
  simp only [Option.some.injEq,Prod.mk.injEq] at h
  obtain ⟨rfl,rfl⟩:=h
  exact ⟨c,f,hb,rfl⟩
 ·simp at h
theorem Ext.alive {w G h w' G' h'} (x:Ext w G h w' G' h') {i:Nat} (hd:h i≠ .dead):h' i≠ .dead/\ ∀b k ds,h' i= .vec b k ds-> ∃ds0,h i= .vec b k ds0/\ds0.length<=ds.length/\(b=true->G'.blk i=G.blk i/\w'.shape? (G.blk i)=w.shape? (G.blk i)):=by
 cases e:h i with
 | dead=>exact absurd e hd
 | box ds=>
  obtain ⟨⟨ds',e',_⟩,_⟩:=x.box i ds e
  exact ⟨by rw [e'];simp,fun b k ds e2=>by rw [e'] at e2;cases e2⟩
 | front n k=>
  obtain ⟨n',e',_⟩:=x.tok i n k e
  exact ⟨by rw [e'];simp,fun b k ds e2=>by rw [e'] at e2;cases e2⟩
 | vec b k ds=>
  rcases x.vec i b k ds e with e' | ⟨ds',e',l',g'⟩
  ·exact ⟨by rw [e'];simp,fun b k ds e2=>by rw [e'] at e2;cases e2⟩
  ·exact ⟨by rw [e'];simp,fun b2 k2 ds2 e2=>by rw [e'] at e2;cases e2;exact ⟨ds,rfl,l',g'⟩⟩
 | gone=>
  have e':=x.gone i e
  exact ⟨by rw [e'];simp,fun b k ds e2=>by rw [e'] at e2;cases e2⟩
 | smap l=>
  obtain ⟨⟨l',e'⟩,_⟩:=x.smap i l e
  exact ⟨by rw [e'];simp,fun b k ds e2=>by rw [e'] at e2;cases e2⟩
 | res R=>
  obtain ⟨⟨l',e'⟩,_⟩:=x.rvm i R e
  exact ⟨by rw [e'];simp,fun b k ds e2=>by rw [e'] at e2;cases e2⟩
 | ids m=>
  obtain ⟨m',e'⟩:=x.idm i m e
  exact ⟨by rw [e'];simp,fun b k ds e2=>by rw [e'] at e2;cases e2⟩
def O.plain:O->Bool
 | .ids _ | .res _=>false
 | _=>true
theorem hx_one {h h':Hp} {i:Nat} (hh: ∀j,j≠i->h' j=h j) (n1:(h i).plain=true) (n2:(h' i).plain=true):(∀j m,h j= .ids m->h' j= .ids m)/\(∀j R,h j= .res R->h' j= .res R)/\(∀j m,h' j= .ids m->h j= .ids m)/\(∀j R,h' j= .res R->h j= .res R):=by
 refine ⟨fun j m e=>?_,fun j m e=>?_,fun j m e=>?_,fun j m e=>?_⟩
 all_goals
  by_cases q:j=i
  ·subst q
   rw [e] at *
   simp [O.plain] at *
  ·first
   | (rw [hh j q];exact e)
   | (rw [<-hh j q];exact e)
theorem hx_two {h h':Hp} {i k:Nat} (hh: ∀j,j≠i->j≠k->h' j=h j) (n1:(h i).plain=true) (n2:(h' i).plain=true) (n3:(h k).plain=true) (n4:(h' k).plain=true):(∀j m,h j= .ids m->h' j= .ids m)/\(∀j R,h j= .res R->h' j= .res R)/\(∀j m,h' j= .ids m->h j= .ids m)/\(∀j R,h' j= .res R->h j= .res R):=by
 refine ⟨fun j m e=>?_,fun j m e=>?_,fun j m e=>?_,fun j m e=>?_⟩
 all_goals
  by_cases q:j=i
  ·subst q
   rw [e] at *
   simp [O.plain] at *
  ·by_cases q2:j=k
   ·subst q2
    rw [e] at *
    simp [O.plain] at *
   ·first
    | (rw [hh j q q2];exact e)
    | (rw [<-hh j q q2];exact e)
theorem XOk.step {w G h} {w' G' h'} (hi:XOk w G h) (hsz:w.heap.size<=w'.heap.size) (h1:G'.sg=G.sg) (h2:G'.rv=G.rv) (h3:G'.rb=G.rb) (hid: ∀i m,h' i= .ids m->h i= .ids m) (hre: ∀i R,h' i= .res R->h i= .res R)
  (hnew: ∀i,(h' i).has=true->(∃j,(h j).has=true/\G'.blk i=G.blk j)\/w.heap.size<=G'.blk i) (hpub: ∀b o,G'.pub b o->G.pub b o\/w.heap.size<=b\/ ∃i,(h i).has=true/\G.blk i=b)
  (hoth: ∀b,b<w.heap.size->(∀i,(h i).has=true->G.blk i≠b)->w'.heap[b]?=w.heap[b]?):XOk w' G' h':=by
 have hb: ∀b,b<w.heap.size->(∀i,(h i).has=true->G.blk i≠b)-> ∀i,(h' i).has=true->G'.blk i≠b:=fun b l q i hh e=>by
  rcases hnew i hh with ⟨j,a,c⟩ | a
  ·exact q j a (by rw [<-c,e])
  ·omega
 refine ⟨fun j b e=>?_,fun i j b c a a'=>hi.sgi i j b c (h1▸a) (h1▸a'),fun i m e j l=>by rw [h1];exact hi.ids i m (hid i m e) j l,fun i j m m' a c=>hi.idu i j m m' (hid i m a) (hid j m' c),fun i R e=>?_⟩
 ·rw [h1] at e
  obtain ⟨a,c,d⟩:=hi.sgs j b e
  exact ⟨by omega,hb b.1 a c,by rw [hoth b.1 a c];exact d⟩
 ·obtain ⟨a,c⟩:=hi.res i R (hre i R e)
  rw [h2,h3]
  refine ⟨fun w2 hw=>a w2 fun b hbm=>?_,fun b hbm=>?_⟩
  ·obtain ⟨c1,c2,c3,c4,c5⟩:=c b hbm
   rw [hw b hbm]
   exact hoth b c1 c4
  ·obtain ⟨c1,c2,c3,c4,c5⟩:=c b hbm
   refine ⟨by omega,fun o p=>?_,fun j c'=>by rw [h1];exact c3 j c',hb b c1 c4,fun j R' e'=>c5 j R' (hre j R' e')⟩
   rcases hpub b o p with q | q | ⟨k,q1,q2⟩
   ·exact c2 o q
   ·omega
   ·exact c4 k q1 q2
theorem Rv.ext {w G h w' G' h'} (x:Ext w G h w' G' h') {v d} (r:Rv w G h v d):Rv w' G' h' v d:=by
 induction r with
 | e h=>exact .e (h.mono x.pub x.sgm)
 | agg hl h1 _ ih=>exact .agg hl h1 ih
 | own hx hk ht=>
  refine .own (hx.mono x.pub x.sgm) hk ?_
  obtain ⟨N,e,l,t⟩:=ht
  obtain ⟨N',e',l',t'⟩:=x.tok _ _ _ e
  refine ⟨N',e',Nat.le_trans l l',fun q=>?_⟩
  have q1:N'=N:=by omega
  rcases t (by omega) with t | ⟨t0,cap,cs,T,fr,t1,t2,t3⟩
  ·exact .inl t
  ·obtain ⟨g1,g2⟩:=t' q1 (by omega)
   rw [shape_size t2] at g2
   obtain ⟨cs',fr',c1,c2⟩:=of_shape g2
   exact .inr ⟨t0,cap,cs',T,fr',by rw [g1];exact t1,by rw [g1];exact c1,by rw [c2];exact t3⟩
 | zs ha=>exact .zs ha
 | bs hb hc hl hm=>
  obtain ⟨⟨ds',e',l'⟩,g⟩:=x.box _ _ hb
  exact .bs e' hc (by rw [l',g];exact hl) hm
 | rp u hp hr=>exact .rp u (fun j hj=>⟨(x.pub _ _ (hp j hj).1).1,((x.pub _ _ (hp j hj).1).2).trans (hp j hj).2⟩) fun j d hj=>(hr j d hj).mono x.pub x.sgm
 | ref hb=>
  obtain ⟨⟨ds',e',l'⟩,g⟩:=x.box _ _ hb
  rw [<-g]
  exact .ref e'
 | refs hb=>
  obtain ⟨⟨ds',e',l'⟩,g⟩:=x.box _ _ hb
  rw [<-g]
  exact .refs e'
 | tup hl _ ih=>exact .tup hl ih
 | when _ hu ih=>exact .when ih hu
 | fn hl _ hl' _ ih ih'=>exact .fn hl ih hl' ih'
 | vec hd hm hc hv=>
  obtain ⟨h1,h2⟩:=x.alive hd
  refine .vec h1 hm hc fun b k ds e=>?_
  obtain ⟨ds0,e0,l0,g0⟩:=h2 b k ds e
  obtain ⟨q1,q2,q3,q4⟩:=hv b k ds0 e0
  refine ⟨q1,Nat.le_trans q2 l0,q3,fun hb=>?_⟩
  obtain ⟨q5,cs,T,fr,q6,q7⟩:=q4 hb
  obtain ⟨g1,g2⟩:=g0 hb
  rw [shape_size q6] at g2
  obtain ⟨cs',fr',c1,c2⟩:=of_shape g2
  exact ⟨by rw [g1];exact q5,cs',T,fr',by rw [g1];exact c1,by rw [c2];exact q7⟩
 | vref hd hv=>
  obtain ⟨h1,h2⟩:=x.alive hd
  refine .vref h1 fun b k ds e=>?_
  obtain ⟨ds0,e0,l0,g0⟩:=h2 b k ds e
  obtain ⟨q1,q2⟩:=hv b k ds0 e0
  exact ⟨q1,by rw [(g0 q1).1];exact q2⟩
 | mp hb=>
  obtain ⟨⟨l',e'⟩,g⟩:=x.smap _ _ hb
  rw [<-g]
  exact .mp e'
 | rv hb hc=>
  obtain ⟨⟨R',e'⟩,g⟩:=x.rvm _ _ hb
  rw [<-g]
  exact .rv e' (by rw [g];exact hc)
 | e0=>exact .e0
 | any=>exact .any
def D.nr:D->D
 | .refs i off=> .ref i off
 | d=>d
theorem Rv.nr {w G h} {v:Value} {d:D} (r:Rv w G h v d):Rv w G h v d.nr:=by
 cases r <;>first | exact .ref (by assumption) | (constructor <;>assumption)
end Go.Proofs.YtfplalbognalkaaGreat.Ab
/- A small language of steps, laid off the loaded code by a function; and what a step does to the abstract state. -/
namespace Go.Proofs.YtfplalbognalkaaGreat.Ab
open Go
abbrev D.v (x:Value):D:= .e (.v x)
abbrev D.int (n:Int):D:= .e (.v (.int .i64 n))
abbrev D.bool (b:Bool):D:= .e (.v (.bool b))
abbrev D.str (l:List UInt8):D:= .e (.v (.string ⟨⟨l⟩⟩))
abbrev E.int (n:Int):E:= .v (.int .i64 n)
abbrev E.bool (b:Bool):E:= .v (.bool b)
abbrev E.str (l:List UInt8):E:= .v (.string ⟨⟨l⟩⟩)
inductive X where
 | s (t:Nat)
 | c (d:D)
 deriving Inhabited
inductive I where
 | mov (x:X) | pick (c a b:X)
 | alloc (zs:List D) | box (x:X)
 | build (zs:List D) (ps:List (Nat×Nat×X))
 | lit (k:Nat) (zs:List E) (n:Nat) (ps:List (Nat×X))
 | load (agg:Bool) (n:Nat) (a:X) | store (agg:Bool) (n:Nat) (a x:X)
 | nilc (x:X)
 | bin (op:BinOp) (x y:X) | binb (op:BinOp) (x y:X) | isnil (ne:Bool) (x:X)
 | un (op:UnOp) (x:X)
 | convi (k:IntKind) (x:X) | convsb (x:X) | convbs (x:X) | convss (x:X)
 | mki (t:TypeId) (x:X)
 | mks (zs:List D) (n:X)
 | slice (k:Nat) (x:X) (lo hi:Option X) | slstr (x:X) (lo hi:Option X)
 | fadr (off:Nat) (x:X)
 | iadr (arr:Option Nat) (k:Nat) (x i:X)
 | fld (agg:Bool) (off n:Nat) (x:X)
 | ixs (x i:X)
 | ixa (agg:Bool) (len k:Nat) (x i:X)
 | ext (i:Nat) (x:X)
 | lens (x:X) | lenl (x:X)
 | mn (x y:X) | mx (x y:X)
 | app (k:Nat) (s x:X) | apps (s x:X)
 | call (f:FuncId) (args:List X)
 | mkf (f:Fn) (first caps:List X)
 | callv (f:X) (args:List X)
 | mkm
 | mget (ok:Bool) (z:E) (m k:X)
 | mput (m k x:X)
 | isnilI (ne:Bool) (x:X)
 | invk (m:String) (x:X) (xs:List X)
 | binst (ne:Bool) (offs:List Nat) (x y:X)
 | bad
 deriving Inhabited
structure Ins where
 dst:Option Nat
 g:Option (Nat×Bool)
 i:I
 deriving Inhabited
def cvD:Value->Option D
 | .slice none 0 0=>some .zs
 | x=>if okV x then some (.v x) else none
def cvX:Operand->Option X
 | .tmp t=>some (.s t)
 | .const v=>(cvD v).map .c
 | .func f=>some (.c (.fn (.func f) [] []))
 | .global _=>none
def isNilV:Value->Bool
 | .slice none 0 0=>true
 | _=>false
def zeroE (v:Value):E:=if isNilV v then .sl [] else .v v
def zeroD (v:Value):D:=if isNilV v then .zs else .e (.v v)
def isAggB (P:Program) (t:TypeId):Bool:=match P.underlying t with
 | some (.struct _) | some (.array _ _)=>true
 | _=>false
def okZ (v:Value):Bool:=isNilV v || okV v
def zerosOf (P:Program) (t:TypeId):Option (List Value):=((P.info? t).bind (·.zero)).map (·.cells.toList)
def zeros? (P:Program) (t:TypeId):Option (List Value):=(zerosOf P t).bind fun z=>if z.all okZ then some z else none
def xs?:List Operand->Option (List X)
 | []=>some []
 | x::r=>(cvX x).bind fun a=>(xs? r).map (a:: ·)
def parts?:List (Nat×Operand)->Option (List (Nat×X))
 | []=>some []
 | (i,x)::r=>(cvX x).bind fun a=>(parts? r).map ((i,a):: ·)
def opt?:Option Operand->Option (Option X)
 | none=>some none
 | some x=>(cvX x).map some
def places? (P:Program) (fs:Array Field):List (Nat×X)->Option (List (Nat×Nat×X))
 | []=>some []
 | (i,x)::r=>(fs[i]?).bind fun f=>(places? P fs r).map ((f.offset,P.cellsOf f.type,x):: ·)
def sameTmp:Operand->Operand->Bool
 | .tmp a,.tmp b=>a==b
 | .const (.int j a),.const (.int k b)=>j==k&&a==b
 | _,_=>false
def zero1? (P:Program) (t:TypeId):Option Value:=((P.info? t).bind (·.zero)).bind fun z=>if okZ z then some z else none
def isIntB (P:Program) (t:TypeId):Bool:=match P.underlying t with
 | some (.int _)=>true
 | _=>false
def prepO (P:Program) (o:Op):Option I:=
 match o with
 | .move x | .assign x=>(cvX x).map .mov
 | .pick c a b=>(cvX c).bind fun c=>(cvX a).bind fun a=>(cvX b).map fun b=> .pick c a b
 | .alloc t=>(zeros? P t).map fun z=> .alloc (z.map fun v=> .e (zeroE v))
 | .box _ x=>(cvX x).map .box
 | .build t ps=>(zeros? P t).bind fun z=>(parts? ps.toList).bind fun ps=>
   match P.underlying t with
   | some (.struct fs)=>if fs.toList.all (fun fd=>(P.info? fd.type).isSome) then (places? P fs ps).map fun ps=> .build (z.map zeroD) ps else none
   | some (.array _ e)=>if (P.info? e).isSome then some (.build (z.map zeroD) (ps.map fun (i,x)=>(i * P.cellsOf e,P.cellsOf e,x))) else none
   | _=>none
 | .buildSlice t n ps=>(parts? ps.toList).bind fun ps=>
   match P.underlying t with
   | some (.slice e)=>(zeros? P e).bind fun z=>if P.cellsOf e≠0/\z.length=P.cellsOf e/\n * P.cellsOf e<=2^24 then some (.lit (P.cellsOf e) (z.map zeroE) n ps) else none
   | _=>none
 | .load t x=>(cvX x).bind fun x=>(P.underlying t).map fun _=>if isAggB P t then .load true (P.cellsOf t) x else .load false 1 x
 | .store t x y=>(cvX x).bind fun x=>(cvX y).bind fun y=>(P.info? t).map fun _=> .store (isAggB P t) (P.cellsOf t) x y
 | .nilCheck x=>(cvX x).map .nilc
 | .binOp op t x y _=>(cvX x).bind fun x=>(cvX y).bind fun y=>match P.underlying t with
   | some .bool=>some (.binb op x y)
   | some (.slice _)=>(match op,y with | .eql,.c .zs=>some (.isnil false x) | .neq,.c .zs=>some (.isnil true x) | _,_=>none)
   | some (.interface _)=>(match op,y with | .eql,.c (.e (.v .nilIface))=>some (.isnilI false x) | .neq,.c (.e (.v .nilIface))=>some (.isnilI true x) | _,_=>none)
   | some (.int _) | some .string=>some (.bin op x y)
   | some (.struct fs)=>if (fs.toList.all (fun fd=>fd.name != "_" &&isIntB P fd.type)&&!P.stoodInHeld t&&!P.eqGuardType P.depth t)=true then
     (match op with | .eql=>some (.binst false (fs.toList.map (·.offset)) x y) | .neq=>some (.binst true (fs.toList.map (·.offset)) x y) | _=>none) else none
   | _=>none
 | .unOp op _ x=>(cvX x).map (.un op)
 | .convert s d x=>(cvX x).bind fun x=>match P.underlying s,P.underlying d with
   | some (.int _),some (.int k)=>some (.convi k x)
   | some .string,some .string=>some (.convss x)
   | some .string,some (.slice e)=>(match P.underlying e with | some (.int .u8)=>some (.convsb x) | _=>none)
   | some (.slice e),some .string=>(match P.underlying e with | some (.int .u8)=>some (.convbs x) | _=>none)
   | _,_=>none
 | .makeInterface t x=>(cvX x).bind fun x=>match P.underlying t with
   | some (.interface _) | none=>none
   | some _=>some (.mki t x)
 | .makeFunc f a c=>(xs? a.toList).bind fun a=>(xs? c.toList).map fun c=> .mkf f a c
 | .makeSlice t l c=>(cvX l).bind fun l'=>match P.underlying t with
   | some (.slice e)=>(P.info? e).bind fun i=>(zeros? P e).bind fun z=>
     if P.cellsOf e≠0/\z.length=P.cellsOf e/\i.bytes<=65536/\sameTmp l c=true then some (.mks (z.map fun v=> .e (zeroE v)) l') else none
   | _=>none
 | .slice t x lo hi mx=>(cvX x).bind fun x=>(opt? lo).bind fun lo=>(opt? hi).bind fun hi=>match mx,P.underlying t with
   | none,some .string=>some (.slstr x lo hi)
   | none,some (.slice e)=>if P.cellsOf e≠0 then some (.slice (P.cellsOf e) x lo hi) else none
   | _,_=>none
 | .fieldAddr t x f=>(cvX x).bind fun x=>match P.underlying t with
   | some (.struct fs)=>(fs[f]?).bind fun f=>if P.cellsOf f.type≠0 then some (.fadr f.offset x) else none
   | _=>none
 | .indexAddr t x i=>(cvX x).bind fun x=>(cvX i).bind fun i=>match P.underlying t with
   | some (.slice e)=>if P.cellsOf e≠0 then some (.iadr none (P.cellsOf e) x i) else none
   | some (.array n e)=>if P.cellsOf e≠0 then some (.iadr (some n) (P.cellsOf e) x i) else none
   | _=>none
 | .field t x f=>(cvX x).bind fun x=>match P.underlying t with
   | some (.struct fs)=>(fs[f]?).bind fun f=>(P.underlying f.type).map fun _=>if isAggB P f.type then .fld true f.offset (P.cellsOf f.type) x else .fld false f.offset 1 x
   | _=>none
 | .index t x i=>(cvX x).bind fun x=>(cvX i).bind fun i=>match P.underlying t with
   | some .string=>some (.ixs x i)
   | some (.array n e)=>(P.underlying e).bind fun _=>if isAggB P e then some (.ixa true n (P.cellsOf e) x i) else if P.cellsOf e=1 then some (.ixa false n 1 x i) else none
   | _=>none
 | .extract x i=>(cvX x).map (.ext i)
 | .makeMap _ none=>some .mkm
 | .lookup t x i ok=>(cvX x).bind fun x=>(cvX i).bind fun i=>match P.underlying t with
   | some (.map k e)=>(match P.underlying k with | some .string=>(zero1? P e).map fun z=> .mget ok (zeroE z) x i | _=>none)
   | _=>none
 | .mapUpdate t m k x=>(cvX m).bind fun m=>(cvX k).bind fun y=>(cvX x).bind fun x=>match P.underlying t with
   | some (.map k _)=>(match P.underlying k with | some .string=>some (.mput m y x) | _=>none)
   | _=>none
 | .call c=>match c with
   | {callee:= .value (.func f),args,..} =>(P.funcs[f]?).bind fun fn=>if fn.name≠ "runtime.NumGoroutine" /\fn.body.isNone=false then (xs? args.toList).map (.call f) else none
   | {callee:= .value (.tmp t),args,..} =>(xs? args.toList).map (.callv (.s t))
   | {callee:= .invoke r m,args,..} =>(cvX r).bind fun x=>(xs? args.toList).map (.invk m x)
   | {callee:= .builtin .len,args:=⟨[x]⟩,argTypes:=⟨[t]⟩} =>(cvX x).bind fun x=>(match P.underlying t with | some .string=>some (.lens x) | some (.slice _)=>some (.lenl x) | _=>none)
   | {callee:= .builtin .min,args:=⟨[x,y]⟩,..} =>(cvX x).bind fun x=>(cvX y).map fun y=> .mn x y
   | {callee:= .builtin .max,args:=⟨[x,y]⟩,..} =>(cvX x).bind fun x=>(cvX y).map fun y=> .mx x y
   | {callee:= .builtin .append,args:=⟨[s,x]⟩,argTypes:=⟨[t,u]⟩} =>(cvX s).bind fun s=>(cvX x).bind fun x=>match P.underlying t,P.underlying u with
     | some (.slice e),some (.slice _)=>(P.info? e).bind fun i=>(i.zero).bind fun z=>if z.cells.size=P.cellsOf e/\i.bytes<=65536 then some (.app (P.cellsOf e) s x) else none
     | some (.slice e),some .string=>(P.info? e).bind fun i=>(i.zero).bind fun z=>if P.cellsOf e=1/\z.cells.size=1/\i.bytes<=65536 then some (.apps s x) else none
     | _,_=>none
   | _=>none
 | _=>none
def prepI (P:Program) (o:Op):I:=(prepO P o).getD .bad
def look (t:Nat):List (Nat×D)->Option D
 | []=>none
 | (k,d)::r=>if k=t then some d else look t r
structure St where
 env:List (Nat×D)
 hp:List O
 deriving Inhabited
def hpF (l:List O):Hp:=fun i=>l.getD i .dead
def St.ev (s:St):X->Option D
 | .s t=>look t s.env
 | .c d=>some d
structure Eff where
 d:Option D
 al:List O:= []
 wr:List (Nat×O):= []
 tc:List Nat:= []
def hset (l:List O):List (Nat×O)->List O
 | []=>l
 | (i,o)::r=>hset (l.set i o) r
def St.app (s:St) (dst:Option Nat) (f:Eff):St:=
 ⟨(match dst,f.d with | some t,some d=>(t,d)::s.env | some t,none=>(t,.any)::s.env | none,_=>s.env),hset s.hp f.wr++f.al⟩
def gImp (g:Bool) (p:Prop):Prop:=match g with
 | true=>p
 | false=>True
theorem gImp_iff {g:Bool} {p:Prop} :gImp g p ↔ (g=true->p):=by cases g <;>simp [gImp]
def evG (g:Bool) (x:Option D) (K:Prop->D->Prop):Prop:=
 match x with
 | none=>False
 | some (.when g' d)=>K (gImp g (g'=true)) d
 | some d=>K True d
def evGs (g:Bool):List (Option D)->(Prop->List D->Prop)->Prop
 | [],K=>K True []
 | x::r,K=>evG g x fun o d=>evGs g r fun o' ds=>K (o/\o') (d::ds)
def D.toE:D->Option E
 | .e x=>some x
 | .own _ es=>some (.sl es)
 | .zs=>some (.sl [])
 | _=>none
def toEs:List D->Option (List E)
 | []=>some []
 | d::r=>(d.toE).bind fun x=>(toEs r).map (x:: ·)
def D.list:D->Option (List (List E))
 | .e (.sl es)=>some es
 | .e (.fs _ es)=>some es
 | .own _ es=>some es
 | .zs=>some []
 | .e0=>some []
 | _=>none
def D.cells:D->List D
 | .agg ds=>ds
 | d=> [d]
def D.stor:D->Bool
 | .tup _ | .when _ _ | .any=>false
 | _=>true
def inR:IntKind->Int->Prop
 | .i64,r=> -9223372036854775808<=r/\r<=9223372036854775807
 | .u8,r=>0<=r/\r<=255
 | .i32,r=> -2147483648<=r/\r<=2147483647
 | k,r=>k.min<=r/\r<=k.max
def binE (op:BinOp) (x y:D) (K:Prop->D->Prop):Prop:=
 match x,y with
 | .e (.v (.int k a)),.e (.v (.int k' b))=>match op with
  | .add=>K (k=k'/\inR k (a+b)) (.v (.int k (a+b)))
  | .sub=>K (k=k'/\inR k (a-b)) (.v (.int k (a-b)))
  | .mul=>K (k=k'/\inR k (a * b)) (.v (.int k (a * b)))
  | .quo=>K (k=k'/\0<=a/\0<b/\inR k a) (.v (.int k (a / b)))
  | .rem=>K (k=k'/\0<=a/\0<b) (.v (.int k (a % b)))
  | .eql=>K (k=k') (.bool (decide (a=b)))
  | .neq=>K (k=k') (.bool (!decide (a=b)))
  | .lss=>K (k=k') (.bool (decide (a<b)))
  | .leq=>K (k=k') (.bool (decide (a<=b)))
  | .gtr=>K (k=k') (.bool (decide (b<a)))
  | .geq=>K (k=k') (.bool (decide (b<=a)))
  | .shr=>K (b=1/\0<=a) (.v (.int k (a / 2)))
  | _=>False
 | .e (.v (.string a)),.e (.v (.string b))=>match op with
  | .add=>K (a.data.toList.length+b.data.toList.length<=maxN) (.str (a.data.toList++b.data.toList))
  | .eql=>K True (.bool (decide (a.data.toList=b.data.toList)))
  | .neq=>K True (.bool (!decide (a.data.toList=b.data.toList)))
  | _=>False
 | _,_=>False
def eqAg (eq:Int->Int->Bool):List Nat->List D->List D->(Prop->Bool->Prop)->Prop
 | [],_,_,K=>K True true
 | i::r,ds,es,K=>match ds.getD i .any,es.getD i .any with
  | .e (.v (.int k a)),.e (.v (.int k' b))=>eqAg eq r ds es fun p c=>K (k=k'/\p) (eq a b&&c)
  | _,_=>False
def u8s (es:List (List E)):List UInt8:=es.map fun
 | [.v (.int .u8 n)]=>UInt8.ofNat n.toNat
 | _=>0
def bytesE (l:List UInt8):List (List E):=l.map fun b=> [.v (.int .u8 b.toNat)]
theorem u8s_bytesE (l:List UInt8):u8s (bytesE l)=l:=by
 induction l with
 | nil=>rfl
 | cons b l ih=>show UInt8.ofNat ((b.toNat:Int)).toNat::u8s (bytesE l)=_;rw [ih];simp
theorem bytesE_ok {l:List UInt8} : ∀e∈bytesE l,∃b:UInt8,e= [.v (.int .u8 b.toNat)]:=fun e he=>by
 obtain ⟨b,_,rfl⟩:=List.mem_map.1 he;exact ⟨b,rfl⟩
def fillD (cells:List D):List (Nat×Nat×List D)->List D
 | []=>cells
 | (off,_,ds)::r=>fillD (cells.take off++ds++cells.drop (off+ds.length)) r
def fillE (es:List (List E)):List (Nat×List E)->List (List E)
 | []=>es
 | (i,x)::r=>fillE (es.set i x) r
def evO (ev:X->Option D) (g:Bool) (x:Option X) (K:Prop->Option Int->Prop):Prop:=
 match x with
 | none=>K True none
 | some x=>evG g (ev x) fun o d=>match d with
  | .e (.v (.int .i64 n))=>K o (some n)
  | _=>False
def allLen (k:Nat):List (List E)->Prop
 | []=>True
 | y::r=>y.length=k/\allLen k r
theorem allLen_iff {k:Nat} : ∀ {es:List (List E)},allLen k es ↔ ∀e∈es,e.length=k
 | []=>by simp [allLen]
 | y::r=>by simp [allLen,allLen_iff (es:=r)]
def allIx (n:Nat):List (Nat×X)->Prop
 | []=>True
 | p::r=>p.1<n/\allIx n r
theorem allIx_iff {n:Nat} : ∀ {ps:List (Nat×X)},allIx n ps ↔ ∀p∈ps,p.1<n
 | []=>by simp [allIx]
 | y::r=>by simp [allIx,allIx_iff (ps:=r)]
def buildOk (n:Nat):List (Nat×Nat×X)->List D->Prop
 | [], []=>True
 | p::ps,d::ds=>d.stor=true/\d.cells.length=p.2.1/\p.1+p.2.1<=n/\buildOk n ps ds
 | _,_=>False
theorem buildOk_all {n:Nat} : ∀ {ps:List (Nat×Nat×X)} {ds:List D},buildOk n ps ds->(∀d∈ds,d.stor=true)/\
  ∀j,j<ps.length->(((ds.getD j .zs).cells.length=(ps.getD j default).2.1)/\(ps.getD j default).1+(ps.getD j default).2.1<=n)
 | [], [],_=>by simp
 | [],_::_,h=>h.elim
 | _::_, [],h=>h.elim
 | p::ps,d::ds,⟨h1,h2,h3,h4⟩=>by
  obtain ⟨a,b⟩:=buildOk_all h4
  refine ⟨by simpa using ⟨h1,a⟩,fun j hj=>?_⟩
  cases j with
  | zero=>exact ⟨by simpa using h2,by simpa using h3⟩
  | succ j=>simpa using b j (by simpa using hj)
def litEs:List D->Option (List (List E))
 | []=>some []
 | d::r=>(toEs d.cells).bind fun x=>(litEs r).map (x:: ·)
theorem litEs_map: ∀ {ds:List D} {es:List (List E)},litEs ds=some es->ds.map (fun d=>toEs d.cells)=es.map some
 | [],es,h=>by simp only [litEs,Option.some.injEq] at h;subst h;rfl
 | d::r,es,h=>by
  simp only [litEs,Option.bind_eq_some_iff,Option.map_eq_some_iff] at h
  obtain ⟨x,h1,y,h2,rfl⟩:=h
  simp [h1,litEs_map h2]
def mlook:List (List UInt8×E)->List UInt8->Option E
 | [],_=>none
 | p::r,k=>if p.1=k then some p.2 else mlook r k
def mset:List (List UInt8×E)->List UInt8->E->List (List UInt8×E)
 | [],k,v=> [(k,v)]
 | p::r,k,v=>if p.1=k then (k,v)::r else p::mset r k v
def CallE (P:Program) (fn:FuncId) (args:List D) (pre:List (Nat×O)) (f:Nat) (eff:Eff):Prop:=
 ∀(w:World) (G:Gh) (h h':Hp) (vs:Array Value),Inv w G h->(∀i o,(i,o)∈pre->h i=o)->(∀j,j<eff.al.length->h (f+j)= .dead)->
  (∀i,h' i=if f<=i/\i<f+eff.al.length then eff.al.getD (i-f) .dead else match eff.wr.find? (·.1==i) with | some x=>x.2 | none=>h i)->
  vs.size=args.length->(∀(j:Nat) v d,vs[j]?=some v->args[j]?=some d->Rv w G h v d)->
  Calls P fn vs w fun e w'=> ∃v d G',e= .returned v/\eff.d=some d/\Rv w' G' h' v d/\Inv w' G' h'/\Ext w G h w' G' h'
def D.pl:D->D
 | .own _ es=> .e (.sl es)
 | .zs=> .e (.sl [])
 | .agg ds=> .agg (ds.map fun
  | .own _ es=> .e (.sl es)
  | .zs=> .e (.sl [])
  | d=>d)
 | d=>d
def Sub (d d':D):Prop:= ∀(w:World) (G:Gh) (h:Hp) (v:Value),Rv w G h v d->Rv w G h v d'
def Wks:List D->List D->Prop
 | [], []=>True
 | d::r,d'::r'=>(d'=d\/d'=d.pl\/Sub d d')/\Wks r r'
 | _,_=>False
def CallK (P:Program) (hp:Hp) (f:Nat) (gd g:Bool) (fn:FuncId) (ds:List D) (o:Prop) (K:Prop->Eff->Prop):Prop:=
 ∃ds' pre eff,Wks ds ds'/\(g=true->o->CallE P fn ds' pre f eff)/\(∀i o,(i,o)∈pre->hp i=o)/\
  (gd=true->g=false->eff.al= []/\eff.wr= [])/\(∀x∈eff.wr,x.1∈pre.map (·.1))/\eff.tc=pre.map (·.1)/\ ∃d,eff.d=some d/\K o {eff with d:=some (if gd then .when g d else d)}
def mrow (P:Program) (t:TypeId) (m:String):Option FuncId:=
 if isAggB P t=true then
  (P.info? t).bind fun i=>(i.methods.find? (·.name==m)).bind fun r=>match r.path.toList,r.func with
   | [],some (fn,false)=>some fn
   | _,_=>none
 else none
def MRow (P:Program) (t:TypeId) (m:String) (fn:FuncId):Prop:=
 mrow P t m=some fn/\ ∃func,P.funcs[fn]?=some func/\func.name≠ "runtime.NumGoroutine" /\func.body.isNone=false
def InvK (P:Program) (t:TypeId) (m:String) (es:List E) (k:FuncId->D->Prop):Prop:=
 ∃fn,MRow P t m fn/\k fn (.agg (es.map .e))
section
variable (P:Program) (ev:X->Option D) (hp:Hp) (f:Nat)
def opE (dr gd g:Bool) (i:I) (K:Prop->Eff->Prop):Prop:=
 let wr (d:D):D:=if gd then .when g d else d
 let fx (o:Prop) (d:D):Prop:=K (gImp g o) {d:=some (wr d)}
 match i with
 | .mov x=>evG g (ev x) fun o d=>K o {d:=some (wr d)}
 | .pick c a b=>evG g (ev c) fun o dc=>match dc with
  | .e (.v (.bool c))=>evG (g&&c) (ev a) fun oa da=>evG (g&&!c) (ev b) fun ob db=>
   match da,db with
   | .e (.v (.bool a)),.e (.v (.bool b))=>K (o/\oa/\ob) {d:=some (wr (.bool (if c then a else b)))}
   | _,_=>False
  | _=>False
 | .alloc zs=>gd=false/\K True {d:=some (.ref f 0),al:= [.box zs]}
 | .box x=>gd=false/\evG g (ev x) fun o d=>match d with
  | .agg ds=>K o {d:=some (.ref f 0),al:= [.box ds]}
  | d=>K (o/\d.stor=true) {d:=some (.ref f 0),al:= [.box [d]]}
 | .build zs ps=>evGs g (ps.map fun p=>ev p.2.2) fun o ds=>
   K (o/\buildOk zs.length ps ds)
    {d:=some (wr (.agg (fillD zs ((ps.zip ds).map fun (p,d)=>(p.1,p.2.1,d.cells)))))}
 | .lit k zs n ps=>gd=false/\(if n=0 then K True {d:=some .zs} /\ps= [] else evGs g (ps.map fun p=>ev p.2) fun o ds=>
   match litEs ds with
   | some es=>(K (o/\allLen k es/\allIx n ps) {d:=some (.own f (fillE (List.replicate n zs) ((ps.map (·.1)).zip es))),al:= [.front n k]} \/
     ∃t m,hp t= .ids m/\K (o/\allLen k es/\allIx n ps) {d:=some (.e (.fs m (fillE (List.replicate n zs) ((ps.map (·.1)).zip es)))),wr:= [(t,.ids (m+1))],tc:= [t]})\/
     K (o/\allLen k es/\allIx n ps) {d:=some (.vec f n k),al:= [.vec true k ((fillE (List.replicate n zs) ((ps.map (·.1)).zip es)).flatten.map .e)]}
   | none=>False)
 | .load agg n a=>evG g (ev a) fun o d=>match d.nr with
  | .rp ds=>if agg then fx (o/\n<=ds.length) (.agg ((ds.take n).map .e)) else fx (o/\1<=ds.length) (.e (ds.getD 0 default))
  | .ref i off=>match hp i with
   | .box ds=>if agg then K (o/\off+n<=ds.length) {d:=some (wr (.agg ((ds.drop off).take n))),tc:= [i]}
    else K (o/\off<ds.length) {d:=some (wr (ds.getD off default)),tc:= [i]}
   | _=>False
  | .vref i off=>match hp i with
   | .vec _ _ ds=>if agg then K (o/\off+n<=ds.length) {d:=some (wr (.agg ((ds.drop off).take n))),tc:= [i]}
    else K (o/\off<ds.length) {d:=some (wr (ds.getD off default)),tc:= [i]}
   | _=>False
  | _=>False
 | .store _ n a x=>gd=false/\evG g (ev a) fun o d=>evG g (ev x) fun o' y=>match d.nr with
  | .ref i off=>match hp i with
   | .box ds=>K (o/\o'/\y.cells.length=n/\off+n<=ds.length/\y.stor=true)
     {d:=none,wr:= [(i,.box (ds.take off++y.cells++ds.drop (off+n)))],tc:= [i]}
   | _=>False
  | .vref i off=>match hp i with
   | .vec b k ds=>K (o/\o'/\y.cells.length=n/\off+n<=ds.length/\y.stor=true)
     {d:=none,wr:= [(i,.vec b k (ds.take off++y.cells++ds.drop (off+n)))],tc:= [i]}
   | _=>False
  | _=>False
 | .nilc x=>evG g (ev x) fun o d=>match d with
  | .rp _ | .ref _ _ | .refs _ _ | .vref _ _=>K o {d:=some (wr d)}
  | _=>False
 | .bin op x y=>if gd then ((evG g (ev x) fun o d=>evG g (ev y) fun o' d'=>binE op d d' fun p r=>K (o/\o'/\gImp g p) {d:=some (wr r)})\/(g=false/\ ∃d,K True {d:=some (.when g d)}))
   else evG g (ev x) fun o d=>evG g (ev y) fun o' d'=>binE op d d' fun p r=>K (o/\o'/\gImp g p) {d:=some (wr r)}
 | .isnil ne x=>evG g (ev x) fun o d=>match d with
  | .vec i _ _=>(match hp i with | .vec true _ _=>K o {d:=some (wr (.bool ne)),tc:= [i]} | _=>False)
  | .bs _ _ _ _=>K o {d:=some (wr (.bool ne))}
  | .e (.sl (_::_))=>K o {d:=some (wr (.bool ne))}
  | .e0=>K o {d:=some (wr (.bool ne))}
  | .e (.v (.slice none 0 0))=>K o {d:=some (wr (.bool (!ne)))}
  | _=>False
 | .binb op x y=>evG g (ev x) fun o d=>evG g (ev y) fun o' d'=>match op,d,d' with
  | .eql,.e (.v (.bool a)),.e (.v (.bool b))=>K (o/\o') {d:=some (wr (.bool (a==b)))}
  | .neq,.e (.v (.bool a)),.e (.v (.bool b))=>K (o/\o') {d:=some (wr (.bool (a !=b)))}
  | _,_,_=>False
 | .un op x=>evG g (ev x) fun o d=>match op,d with
  | .not,.e (.v (.bool b))=>K o {d:=some (wr (.bool (!b)))}
  | .neg,.e (.v (.int k n))=>fx (o/\inR k (-n)) (.v (.int k (-n)))
  | _,_=>False
 | .convi k x=>evG g (ev x) fun o d=>match d with
  | .e (.v (.int _ n))=>fx (o/\inR k n) (.v (.int k n))
  | _=>False
 | .convss x=>evG g (ev x) fun o d=>match d with
  | .e (.v (.string s))=>K o {d:=some (wr (.v (.string s)))}
  | _=>False
 | .convsb x=>gd=false/\evG g (ev x) fun o d=>match d with
  | .e (.v (.string s))=>K o {d:=some (.e (.sl (bytesE s.data.toList)))}
  | _=>False
 | .convbs x=>evG g (ev x) fun o d=>match d.list with
  | some es=>fx (o/\ ∀e∈es,∃b:UInt8,e= [.v (.int .u8 b.toNat)]) (.str (u8s es))
  | none=>False
 | .mki t x=>evG g (ev x) fun o d=>match d with
  | .agg ds=>(match toEs ds with | some es=>K o {d:=some (wr (.e (.ia t es)))} | none=>False)
  | d=>(match d.toE with | some y=>K o {d:=some (wr (.e (.iv t y)))} | none=>False)
 | .mks zs n=>gd=false/\evG g (ev n) fun o d=>match d with
  | .e (.v (.int .i64 n))=>K (o/\0<=n/\n<=2147483648) {d:=some (.bs f 0 n.toNat zs.length),al:= [.box (List.replicate n.toNat zs).flatten]} \/
    K (o/\0<=n/\n<=2147483648) {d:=some (.vec f n.toNat zs.length),al:= [.vec true zs.length (List.replicate n.toNat zs).flatten]}
  | _=>False
 | .slice k0 x lo hi=>evG g (ev x) fun o d=>evO ev g lo fun ol l=>evO ev g hi fun oh h=>match d with
  | .bs i off n k=>fx (k=k0/\o/\ol/\oh/\0<=l.getD 0/\l.getD 0<=h.getD n/\h.getD n<=n) (.bs i (off+(l.getD 0).toNat * k) (h.getD n-l.getD 0).toNat k)
  | .vec i n k=>fx (k=k0/\o/\ol/\oh/\(l.getD 0=0/\0<=h.getD (n:Int)/\h.getD (n:Int)<=n)) (.vec i (h.getD (n:Int)).toNat k)
  | d=>match d.list with
   | some es=>fx (o/\ol/\oh/\(allLen k0 es/\0<=l.getD 0/\l.getD 0<=h.getD es.length/\h.getD es.length<=es.length)) (.e (.sl ((es.take (h.getD es.length).toNat).drop (l.getD 0).toNat)))
   | none=>False
 | .slstr x lo hi=>evG g (ev x) fun o d=>evO ev g lo fun ol l=>evO ev g hi fun oh h=>match d with
  | .e (.v (.string s))=>fx (o/\ol/\oh/\(0<=l.getD 0/\l.getD 0<=h.getD s.data.toList.length/\h.getD s.data.toList.length<=s.data.toList.length))
    (.str ((s.data.toList.take (h.getD s.data.toList.length).toNat).drop (l.getD 0).toNat))
  | _=>False
 | .fadr off x=>evG g (ev x) fun o d=>match d with
  | .rp ds=>K o {d:=some (wr (.rp (ds.drop off)))}
  | .ref i b=>K o {d:=some (wr (.ref i (b+off)))}
  | .refs i b=>K o {d:=some (wr (.refs i (b+off)))}
  | .vref i b=>K o {d:=some (wr (.vref i (b+off)))}
  | _=>False
 | .iadr arr k x i=>evG g (ev x) fun o d=>evG g (ev i) fun o' di=>match di with
  | .e (.v (.int _ n))=>(match arr with
   | none=>(match d with
    | .bs i off m k'=>fx (o/\o'/\0<=n/\n<m/\k'=k) (.refs i (off+n.toNat * k))
    | .vec i m k'=>(match hp i with
     | .vec _ _ _=>K (gImp g (o/\o'/\0<=n/\n<m/\k'=k)) {d:=some (wr (.vref i (0+n.toNat * k))),tc:= [i]}
     | _=>False)
    | d=>match d.list with
     | some es=>fx (o/\o'/\(0<=n/\n<es.length)/\(es.getD n.toNat []).length=k) (.rp (es.getD n.toNat []))
     | none=>False)
   | some m=>match d with
    | .ref i off=>fx (o/\o'/\0<=n/\n<m) (.ref i (off+n.toNat * k))
    | .refs i off=>fx (o/\o'/\0<=n/\n<m) (.refs i (off+n.toNat * k))
    | .rp ds=>fx (o/\o'/\0<=n/\n<m) (.rp (ds.drop (n.toNat * k)))
    | _=>False)
  | _=>False
 | .fld agg off n x=>evG g (ev x) fun o d=>match d with
  | .agg ds=>if agg then fx (o/\off+n<=ds.length) (.agg ((ds.drop off).take n)) else fx (o/\off<ds.length) (ds.getD off default)
  | _=>False
 | .ixs x i=>evG g (ev x) fun o d=>evG g (ev i) fun o' di=>match d,di with
  | .e (.v (.string s)),.e (.v (.int _ n))=>fx (o/\o'/\(0<=n/\n<s.data.toList.length)) (.v (.int .u8 (s.data.toList.getD n.toNat 0).toNat))
  | _,_=>False
 | .ixa agg len k x i=>evG g (ev x) fun o d=>evG g (ev i) fun o' di=>match d,di with
  | .agg ds,.e (.v (.int _ n))=>if agg then fx (o/\o'/\0<=n/\n<len/\n.toNat * k+k<=ds.length) (.agg ((ds.drop (n.toNat * k)).take k))
   else fx (o/\o'/\0<=n/\n<len/\n<ds.length) (ds.getD n.toNat default)
  | _,_=>False
 | .ext i x=>evG g (ev x) fun o d=>match d with
  | .tup ds=>fx (o/\i<ds.length) (ds.getD i default)
  | _=>False
 | .lens x=>evG g (ev x) fun o d=>match d with
  | .e (.v (.string s))=>(dr=false->g=true->o->s.data.toList.length<=maxN)->K o {d:=some (wr (.int s.data.toList.length))}
  | _=>False
 | .lenl x=>evG g (ev x) fun o d=>match d with
  | .bs _ _ n _=>(dr=false->g=true->o->n<=maxN)->K o {d:=some (wr (.int n))}
  | .vec _ n _=>(dr=false->g=true->o->n<=maxN)->K o {d:=some (wr (.int n))}
  | d=>match d.list with
   | some es=>(dr=false->g=true->o->es.length<=maxN)->K o {d:=some (wr (.int es.length))}
   | none=>False
 | .mn x y=>evG g (ev x) fun o d=>evG g (ev y) fun o' d'=>match d,d' with
  | .e (.v (.int k a)),.e (.v (.int k' b))=>fx (o/\o'/\k=k') (.v (.int k (min a b)))
  | _,_=>False
 | .mx x y=>evG g (ev x) fun o d=>evG g (ev y) fun o' d'=>match d,d' with
  | .e (.v (.int k a)),.e (.v (.int k' b))=>fx (o/\o'/\k=k') (.v (.int k (max a b)))
  | _,_=>False
 | .app k s x=>gd=false/\evG g (ev s) fun o d=>evG g (ev x) fun o' d'=>match d'.list with
  | some ys=>(match d with
   | .zs=>K (o/\o'/\(ys.length<=2147483648/\allLen k ys)) {d:=some (.own f ys),al:= [.front ys.length k]} \/
     K (o/\o'/\(ys.length<=2147483648/\allLen k ys)) {d:=some (.vec f ys.length k),al:= [.vec (decide (0<ys.length)) k (ys.flatten.map .e)]}
   | .vec i n k0=>(match hp i with
    | .vec b _ ds=>K (o/\o'/\k0=k/\(n+ys.length<=2147483648/\allLen k ys))
      {d:=some (.vec f (n+ys.length) k),al:= [.vec (b || decide (0<ys.length)) k (ds.take (n * k)++ys.flatten.map .e)],wr:= [(i,.gone)],tc:= [i]}
    | _=>False)
   | .own i es=>K (o/\o'/\(es.length+ys.length<=2147483648/\allLen k ys/\hp i= .front es.length k))
     {d:=some (.own i (es++ys)),wr:= [(i,.front (es.length+ys.length) k)],tc:= [i]}
   | _=>False)
  | none=>(match d' with
   | .vec j m kk=>(match hp j with
    | .vec _ _ ds2=>(match d with
     | .zs=>K (o/\o'/\kk=k/\(∃xs:List E,ds2.take (m * k)=xs.map .e)/\0+m<=2147483648) {d:=some (.vec f (0+m) k),al:= [.vec (false || decide (0<m)) k (([]:List D).take (0 * k)++ds2.take (m * k))],tc:= [j]}
     | .vec i n k0=>(match hp i with
      | .vec b _ ds=>K (o/\o'/\k0=k/\kk=k/\(∃xs:List E,ds2.take (m * k)=xs.map .e)/\n+m<=2147483648)
        {d:=some (.vec f (n+m) k),al:= [.vec (b || decide (0<m)) k (ds.take (n * k)++ds2.take (m * k))],wr:= [(i,.gone)],tc:= [i,j]}
      | _=>False)
     | _=>False)
    | _=>False)
   | _=>False)
 | .apps s x=>gd=false/\evG g (ev s) fun o d=>evG g (ev x) fun o' d'=>match d' with
  | .e (.v (.string t))=>(match d with
   | .zs=>K (o/\o'/\((bytesE t.data.toList).length<=2147483648/\allLen 1 (bytesE t.data.toList))) {d:=some (.own f (bytesE t.data.toList)),al:= [.front (bytesE t.data.toList).length 1]}
   | .own i es=>K (o/\o'/\(es.length+(bytesE t.data.toList).length<=2147483648/\allLen 1 (bytesE t.data.toList)/\hp i= .front es.length 1))
     {d:=some (.own i (es++bytesE t.data.toList)),wr:= [(i,.front (es.length+(bytesE t.data.toList).length) 1)],tc:= [i]}
   | _=>False)
  | _=>False
 | .call fn xs=>evGs g (xs.map ev) fun o ds=>CallK P hp f gd g fn ds o K
 | .mkf fn a c=>evGs g (a.map ev) fun o ds=>evGs g (c.map ev) fun o' es=>K (o/\o') {d:=some (wr (.fn fn ds es))}
 | .callv x xs=>evG g (ev x) fun o d=>evGs g (xs.map ev) fun o' ds=>match d with
  | .fn (.func fn) a c=>(∃func,P.funcs[fn]?=some func/\func.name≠ "runtime.NumGoroutine" /\func.body.isNone=false)/\CallK P hp f gd g fn (a++ds++c) (o/\o') K
  | _=>False
 | .mkm=>gd=false/\K True {d:=some (.mp f),al:= [.smap []]}
 | .mget ok z m k=>evG g (ev m) fun o d=>evG g (ev k) fun o' d'=>match d,d' with
  | .mp i,.e (.v (.string s))=>(match hp i with
   | .smap l=>(match mlook l s.data.toList with
    | some v=>K (o/\o') {d:=some (wr (if ok then .tup [.e v,.bool true] else .e v)),tc:= [i]}
    | none=>K (o/\o') {d:=some (wr (if ok then .tup [.e z,.bool false] else .e z)),tc:= [i]})
   | _=>False)
  | _,_=>False
 | .mput m k x=>gd=false/\evG g (ev m) fun o d=>evG g (ev k) fun o' d'=>evG g (ev x) fun o'' y=>match d,d',y.toE with
  | .mp i,.e (.v (.string s)),some v=>(match hp i with
   | .smap l=>K (o/\o'/\o'') {d:=none,wr:= [(i,.smap (mset l s.data.toList v))],tc:= [i]}
   | _=>False)
  | _,_,_=>False
 | .binst ne offs x y=>evG g (ev x) fun o d=>evG g (ev y) fun o' d'=>match d,d' with
  | .agg ds,.agg es=>eqAg (fun a b=>decide (a=b)) offs ds es fun p c=>K (o/\o'/\gImp g p) {d:=some (wr (.bool (if ne then !c else c)))}
  | _,_=>False
 | .isnilI ne x=>evG g (ev x) fun o d=>match d with
  | .e (.v .nilIface)=>K o {d:=some (wr (.bool (!ne)))}
  | .e (.iv _ _)=>K o {d:=some (wr (.bool ne))}
  | .e (.ia _ _)=>K o {d:=some (wr (.bool ne))}
  | _=>False
 | .invk m x xs=>evG g (ev x) fun o d=>evGs g (xs.map ev) fun o' ds=>match d with
  | .e (.ia t es)=>InvK P t m es fun fn d=>CallK P hp f gd g fn (d::ds) (o/\o') K
  | .e (.v .nilIface)=>gd=true/\g=false/\ ∃d,K True {d:=some (.when g d)}
  | _=>False
 | .bad=>False
end
mutual
def D.free:D->Bool
 | .e _ | .zs | .e0 | .rp _ | .any=>true
 | .agg ds=>frees ds
 | .tup ds=>frees ds
 | .when _ d=>d.free
 | .fn _ a b=>frees a&&frees b
 | _=>false
def frees:List D->Bool
 | []=>true
 | d::r=>d.free&&frees r
end
def FinW (l:List O) (d' d:D):Prop:= ∀(w:World) (G:Gh) (v:Value),Inv w G (hpF l)->Rv w G (hpF l) v d'-> ∃G',Rv w G' (hpF []) v d/\Inv w G' (hpF [])/\
 ∀w0 G0,Ext w0 G0 (hpF []) w G (hpF l)->Ext w0 G0 (hpF []) w G' (hpF [])
def FinV (l0 l':List O) (d':D) (l:List O) (d:D):Prop:= ∀(w:World) (G:Gh) (v:Value),Inv w G (hpF l')->Rv w G (hpF l') v d'-> ∃G',Rv w G' (hpF l) v d/\Inv w G' (hpF l)/\
 ∀w0 G0,Ext w0 G0 (hpF l0) w G (hpF l')->Ext w0 G0 (hpF l0) w G' (hpF l)
def Weak (h0:Hp) (s s':St):Prop:= ∀(w:World) (G:Gh),Inv w G (hpF s.hp)-> ∃G',Inv w G' (hpF s'.hp)/\(∀w0 G0,Ext w0 G0 h0 w G (hpF s.hp)->Ext w0 G0 h0 w G' (hpF s'.hp))/\
 ∀t d',look t s'.env=some d'-> ∃d,look t s.env=some d/\ ∀x,Rv w G (hpF s.hp) x d->Rv w G' (hpF s'.hp) x d'
def LoopK (h0:Hp) (body:(St->Prop)->St->Prop) (s:St):Prop:=
 ∃(I:Nat->St->Prop),(∃n s',Weak h0 s s'/\I n s')/\ ∀n s,I n s->body (fun s1=> ∃m s',m<n/\Weak h0 s1 s'/\I m s') s
structure Ar where
 add:Int->Int->Int
 sub:Int->Int->Int
 mul:Int->Int->Int
 div:Int->Int->Int
 mod:Int->Int->Int
 neg:Int->Int
 mn:Int->Int->Int
 mx:Int->Int->Int
 eq:Int->Int->Bool
 lt:Int->Int->Bool
 le:Int->Int->Bool
 nat:Int->Nat
 R:IntKind->Int->Prop
 lep:Int->Int->Prop
 ltp:Int->Int->Prop
 seq:List UInt8->List UInt8->Bool
 call:Program->Hp->Nat->Bool->Bool->FuncId->List D->Prop->(Prop->Eff->Prop)->Prop
 loop:Hp->((St->Prop)->St->Prop)->St->Prop
 fin:List O->D->D->Prop
 finv:List O->List O->D->List O->D->Prop
 ld:List D->Nat->Nat->(Prop->List D->Prop)->Prop
 ld1:List D->Nat->(Prop->D->Prop)->Prop
 st:List D->Nat->Nat->List D->(Prop->List D->Prop)->Prop
 plus:Nat->Nat->(Nat->Prop)->Prop
 off:Nat->Int->Nat->(Nat->Prop)->Prop
 row:List (List E)->Int->(Prop->List E->Prop)->Prop
 len:List (List E)->Bool->Bool->Prop->(Int->Prop)->Prop
 slen:List UInt8->Bool->Bool->Prop->(Int->Prop)->Prop
 app0:List (List E)->Nat->(Prop->Nat->Prop)->Prop
 app:List (List E)->List (List E)->Nat->O->(Prop->List (List E)->Nat->Prop)->Prop
 slc:List (List E)->Nat->Option Int->Option Int->(Prop->List (List E)->Prop)->Prop
 rep:List D->Int->(List D->Nat->Prop)->Prop
 mget:List (List UInt8×E)->List UInt8->(E->Prop)->(Unit->Prop)->Prop
 mset:List (List UInt8×E)->List UInt8->E->(List (List UInt8×E)->Prop)->Prop
 gb:Bool->(Bool->Prop)->Prop
 alt:(Unit->Prop)->(Unit->Prop)->Prop
 app0v:List (List E)->Nat->(Prop->Bool->Nat->List D->Prop)->Prop
 appv:Bool->List D->Nat->List (List E)->Nat->(Prop->Bool->Nat->List D->Prop)->Prop
 vsl:Nat->Option Int->Option Int->(Prop->Nat->Prop)->Prop
 vcut:List D->Nat->Nat->(Prop->List D->Prop)->Prop
 appw:Bool->List D->Nat->List D->Nat->Nat->(Prop->Bool->Nat->List D->Prop)->Prop
 sapp:List UInt8->List UInt8->(Prop->List UInt8->Prop)->Prop
 ssl:List UInt8->Option Int->Option Int->(Prop->List UInt8->Prop)->Prop
 six:List UInt8->Int->(Prop->Nat->Prop)->Prop
 s2b:List UInt8->(List (List E)->Prop)->Prop
 b2s:List (List E)->(Prop->List UInt8->Prop)->Prop
 inv:Program->TypeId->String->List E->(FuncId->D->Prop)->Prop
 anyd:(D->Prop)->Prop
def Ar.std:Ar where
 add a b:=a+b
 sub a b:=a-b
 mul a b:=a * b
 div a b:=a / b
 mod a b:=a % b
 neg a:= -a
 mn a b:=min a b
 mx a b:=max a b
 eq a b:=decide (a=b)
 lt a b:=decide (a<b)
 le a b:=decide (a<=b)
 nat a:=a.toNat
 R:=inR
 lep a b:=a<=b
 ltp a b:=a<b
 seq a b:=decide (a=b)
 call:=CallK
 loop:=LoopK
 fin l d' d:=d.free=true->FinW l d' d
 finv:=FinV
 ld ds off n k:=k (off+n<=ds.length) ((ds.drop off).take n)
 ld1 ds off k:=k (off<ds.length) (ds.getD off default)
 st ds off n cs k:=k (off+n<=ds.length) (ds.take off++cs++ds.drop (off+n))
 plus a b k:=k (a+b)
 off a n k K:=K (a+n.toNat * k)
 row es n k:=k (0<=n/\n<es.length) (es.getD n.toNat [])
 len es dr g o k:=(dr=false->g=true->o->es.length<=maxN)->k es.length
 slen es dr g o k:=(dr=false->g=true->o->es.length<=maxN)->k es.length
 app0 ys k K:=K (ys.length<=2147483648/\allLen k ys) ys.length
 app es ys k ob K:=K (es.length+ys.length<=2147483648/\allLen k ys/\ob= .front es.length k) (es++ys) (es.length+ys.length)
 slc es k l h K:=K (allLen k es/\0<=l.getD 0/\l.getD 0<=h.getD (es.length:Int)/\h.getD (es.length:Int)<=(es.length:Int)) ((es.take (h.getD (es.length:Int)).toNat).drop (l.getD 0).toNat)
 rep zs n K:=K (List.replicate n.toNat zs).flatten n.toNat
 mget l k k1 k2:=match mlook l k with | some v=>k1 v | none=>k2 ()
 mset l k v K:=K (Ab.mset l k v)
 gb b K:=K b
 alt p q:=p ()\/q ()
 app0v ys k K:=K (ys.length<=2147483648/\allLen k ys) (decide (0<ys.length)) ys.length (ys.flatten.map .e)
 appv b ds n ys k K:=K (n+ys.length<=2147483648/\allLen k ys) (b || decide (0<ys.length)) (n+ys.length) (ds.take (n * k)++ys.flatten.map .e)
 vcut ds n k K:=K (∃xs:List E,ds.take (n * k)=xs.map .e) (ds.take (n * k))
 appw b ds n cs m k K:=K (n+m<=2147483648) (b || decide (0<m)) (n+m) (ds.take (n * k)++cs)
 vsl n l h K:=K (l.getD 0=0/\0<=h.getD (n:Int)/\h.getD (n:Int)<=n) (h.getD (n:Int)).toNat
 sapp a b K:=K (a.length+b.length<=maxN) (a++b)
 ssl s l h K:=K (0<=l.getD 0/\l.getD 0<=h.getD (s.length:Int)/\h.getD (s.length:Int)<=s.length) ((s.take (h.getD (s.length:Int)).toNat).drop (l.getD 0).toNat)
 six s n K:=K (0<=n/\n<s.length) (s.getD n.toNat 0).toNat
 s2b s K:=K (bytesE s)
 b2s es K:=K (∀e∈es,∃b:UInt8,e= [.v (.int .u8 b.toNat)]) (u8s es)
 inv:=InvK
 anyd k:= ∃d,k d
structure Ar.Ok (A:Ar):Prop where
 add: ∀a b,A.add a b=a+b
 sub: ∀a b,A.sub a b=a-b
 mul: ∀a b,A.mul a b=a * b
 div: ∀a b,A.div a b=a / b
 mod: ∀a b,A.mod a b=a % b
 neg: ∀a,A.neg a= -a
 mn: ∀a b,A.mn a b=min a b
 mx: ∀a b,A.mx a b=max a b
 eq: ∀a b,A.eq a b=decide (a=b)
 lt: ∀a b,A.lt a b=decide (a<b)
 le: ∀a b,A.le a b=decide (a<=b)
 nat: ∀a,A.nat a=a.toNat
 R: ∀k a,A.R k a=inR k a
 lep: ∀a b,A.lep a b=(a<=b)
 ltp: ∀a b,A.ltp a b=(a<b)
 seq: ∀a b,A.seq a b=decide (a=b)
 call: ∀P hp f gd g fn ds o K,CallK P hp f gd g fn ds o K->A.call P hp f gd g fn ds o K
 loop: ∀h0 body s,LoopK h0 body s->A.loop h0 body s
 fin: ∀l d' d,(d.free=true->FinW l d' d)->A.fin l d' d
 finv: ∀l0 l' d' l d,FinV l0 l' d' l d->A.finv l0 l' d' l d
 ld: ∀ds off n k,(off+n<=ds.length/\ ∀cs,cs=(ds.drop off).take n->k True cs)->A.ld ds off n k
 ld1: ∀ds off k,(off<ds.length/\ ∀c,c=ds.getD off default->k True c)->A.ld1 ds off k
 st: ∀ds off n cs k,(off+n<=ds.length/\ ∀ds',ds'=ds.take off++cs++ds.drop (off+n)->k True ds')->A.st ds off n cs k
 plus: ∀a b k,(∀c,c=a+b->k c)->A.plus a b k
 off: ∀a n k K,(∀c,c=a+n.toNat * k->K c)->A.off a n k K
 row: ∀es n k,((0<=n/\n<es.length)/\ ∀row,row=es.getD n.toNat []->k True row)->A.row es n k
 len: ∀es dr g o k,(∀z:Int,z=es.length->(dr=false->g=true->o->z<=140737488355328)->k z)->A.len es dr g o k
 slen: ∀es dr g o k,(∀z:Int,z=es.length->(dr=false->g=true->o->z<=140737488355328)->k z)->A.slen es dr g o k
 app0: ∀ys k K,((ys.length<=2147483648/\allLen k ys)/\ ∀m,m=ys.length->K True m)->A.app0 ys k K
 app: ∀es ys k ob K,((es.length+ys.length<=2147483648/\allLen k ys/\ob= .front es.length k)/\ ∀zs m,zs=es++ys->m=zs.length->K True zs m)->A.app es ys k ob K
 slc: ∀es k l h K,((allLen k es/\0<=l.getD 0/\l.getD 0<=h.getD (es.length:Int)/\h.getD (es.length:Int)<=(es.length:Int))/\ ∀zs,zs=(es.take (h.getD (es.length:Int)).toNat).drop (l.getD 0).toNat->K True zs)->A.slc es k l h K
 rep: ∀zs n K,(∀ds m,ds=(List.replicate n.toNat zs).flatten->m=n.toNat->K ds m)->A.rep zs n K
 mget: ∀l k (k1:E->Prop) (k2:Unit->Prop),((∀v,mlook l k=some v->k1 v)/\(mlook l k=none->k2 ()))->A.mget l k k1 k2
 mset: ∀l k v (K:List (List UInt8×E)->Prop),(∀l',l'=Ab.mset l k v->K l')->A.mset l k v K
 gb: ∀b (K:Bool->Prop),(∀v,v=b->K v)->A.gb b K
 gb0: ∀b (K:Bool->Prop),K b->A.gb b K
 row0: ∀es n k,(∀p row,k p row)->A.row es n k
 alt: ∀(p q:Unit->Prop),(p ()\/q ())->A.alt p q
 app0v: ∀ys k K,((ys.length<=2147483648/\allLen k ys)/\ ∀b m ds,b=decide (0<ys.length)->m=ys.length->ds=ys.flatten.map .e->K True b m ds)->A.app0v ys k K
 appv: ∀b ds n ys k K,((n+ys.length<=2147483648/\allLen k ys)/\ ∀b' m ds',b'=(b || decide (0<ys.length))->m=n+ys.length->ds'=ds.take (n * k)++ys.flatten.map .e->K True b' m ds')->A.appv b ds n ys k K
 vsl: ∀(n:Nat) (l h:Option Int) (K:Prop->Nat->Prop),((l.getD 0=0/\0<=h.getD (n:Int)/\h.getD (n:Int)<=n)/\ ∀m,m=(h.getD (n:Int)).toNat->K True m)->A.vsl n l h K
 vcut: ∀ds n k K,((∃xs:List E,ds.take (n * k)=xs.map .e)/\ ∀cs,cs=ds.take (n * k)->K True cs)->A.vcut ds n k K
 appw: ∀b ds n cs m k K,(n+m<=2147483648/\ ∀b' m' ds',b'=(b || decide (0<m))->m'=n+m->ds'=ds.take (n * k)++cs->K True b' m' ds')->A.appw b ds n cs m k K
 sapp: ∀a b K,(a.length+b.length<=140737488355328/\ ∀l,l=a++b->K True l)->A.sapp a b K
 ssl: ∀s l h K,((0<=l.getD 0/\l.getD 0<=h.getD (s.length:Int)/\h.getD (s.length:Int)<=s.length)/\ ∀r,r=(s.take (h.getD (s.length:Int)).toNat).drop (l.getD 0).toNat->K True r)->A.ssl s l h K
 six: ∀s n K,(∀(z:Int) c,z=s.length->c=(s.getD n.toNat 0).toNat->c<256->K (A.lep 0 n/\A.ltp n z) c)->A.six s n K
 s2b: ∀s K,(∀es,es=bytesE s->K es)->A.s2b s K
 b2s: ∀es K l,es=bytesE l->K True l->A.b2s es K
 inv: ∀P t m es k,(∃fn,MRow P t m fn/\ ∀d,d= .agg (es.map .e)->k fn d)->A.inv P t m es k
 anyd: ∀k d,k d->A.anyd k
theorem Ar.std_ok:Ar.std.Ok:=⟨fun _ _=>rfl,fun _ _=>rfl,fun _ _=>rfl,fun _ _=>rfl,fun _ _=>rfl,fun _=>rfl,fun _ _=>rfl,fun _ _=>rfl,fun _ _=>rfl,fun _ _=>rfl,fun _ _=>rfl,fun _=>rfl,fun _ _=>rfl,fun _ _=>rfl,fun _ _=>rfl,fun _ _=>rfl,fun _ _ _ _ _ _ _ _ _ h=>h,fun _ _ _ h=>h,fun _ _ _ h=>h,fun _ _ _ _ _ h=>h,
 fun _ _ _ k ⟨p,q⟩=>(eq_true p▸q _ rfl:k _ _),
 fun _ _ k ⟨p,q⟩=>(eq_true p▸q _ rfl:k _ _),
 fun _ _ _ _ k ⟨p,q⟩=>(eq_true p▸q _ rfl:k _ _),
 fun _ _ _ q=>q _ rfl,
 fun _ _ _ _ q=>q _ rfl,
 fun _ _ k ⟨p,q⟩=>(eq_true p▸q _ rfl:k _ _),
 fun _ _ _ _ _ q=>fun hb=>q _ rfl fun a b c=>Int.ofNat_le.2 (hb a b c),
 fun _ _ _ _ _ q=>fun hb=>q _ rfl fun a b c=>Int.ofNat_le.2 (hb a b c),
 fun _ _ k ⟨p,q⟩=>(eq_true p▸q _ rfl:k _ _),
 fun _ _ _ _ k ⟨p,q⟩=>(eq_true p▸q _ _ rfl (by simp):k _ _ _),
 fun _ _ _ _ k ⟨p,q⟩=>(eq_true p▸q _ rfl:k _ _),
 fun _ _ _ q=>q _ _ rfl rfl,
 fun l k k1 k2 ⟨p,q⟩=>(by show (match mlook l k with | some v=>k1 v | none=>k2 ());split <;>simp_all),
 fun _ _ _ _ h=>h _ rfl,
 fun _ _ h=>h _ rfl,
 fun _ _ h=>h,
 fun _ _ _ h=>h _ _,
 fun _ _ h=>h,
 fun _ _ k ⟨p,q⟩=>(eq_true p▸q _ _ _ rfl rfl rfl:k _ _ _ _),
 fun _ _ _ _ _ k ⟨p,q⟩=>(eq_true p▸q _ _ _ rfl rfl rfl:k _ _ _ _),
 fun _ _ _ k ⟨p,q⟩=>(eq_true p▸q _ rfl:k _ _),
 fun _ _ _ k ⟨p,q⟩=>(eq_true p▸q _ rfl:k _ _),
 fun _ _ _ _ _ _ k ⟨p,q⟩=>(eq_true p▸q _ _ _ rfl rfl rfl:k _ _ _ _),
 fun _ _ k ⟨p,q⟩=>(eq_true p▸q _ rfl:k _ _),
 fun _ _ _ k ⟨p,q⟩=>(eq_true p▸q _ rfl:k _ _),
 fun _ _ _ q=>q _ _ rfl rfl (UInt8.toNat_lt _),
 fun _ _ q=>q _ rfl,
 fun _ k l e h=>(by subst e;show k (∀e∈bytesE l,∃b:UInt8,e= [.v (.int .u8 b.toNat)]) (u8s (bytesE l));rw [u8s_bytesE,eq_true (bytesE_ok (l:=l))];exact h),
 fun _ _ _ _ _ ⟨fn,h,k⟩=>⟨fn,h,k _ rfl⟩,
 fun _ d h=>⟨d,h⟩⟩
def binA (A:Ar) (op:BinOp) (x y:D) (K:Prop->D->Prop):Prop:=
 match x,y with
 | .e (.v (.int k a)),.e (.v (.int k' b))=>match op with
  | .add=>K (k=k'/\A.R k (A.add a b)) (.v (.int k (A.add a b)))
  | .sub=>K (k=k'/\A.R k (A.sub a b)) (.v (.int k (A.sub a b)))
  | .mul=>K (k=k'/\A.R k (A.mul a b)) (.v (.int k (A.mul a b)))
  | .quo=>K (k=k'/\A.lep 0 a/\A.ltp 0 b/\A.R k a) (.v (.int k (A.div a b)))
  | .rem=>K (k=k'/\A.lep 0 a/\A.ltp 0 b) (.v (.int k (A.mod a b)))
  | .eql=>K (k=k') (.bool (A.eq a b))
  | .neq=>K (k=k') (.bool (!A.eq a b))
  | .lss=>K (k=k') (.bool (A.lt a b))
  | .leq=>K (k=k') (.bool (A.le a b))
  | .gtr=>K (k=k') (.bool (A.lt b a))
  | .geq=>K (k=k') (.bool (A.le b a))
  | .shr=>K (b=1/\A.lep 0 a) (.v (.int k (A.div a 2)))
  | _=>False
 | .e (.v (.string a)),.e (.v (.string b))=>match op with
  | .add=>A.sapp a.data.toList b.data.toList fun p l=>K p (.str l)
  | .eql=>K True (.bool (A.seq a.data.toList b.data.toList))
  | .neq=>K True (.bool (!A.seq a.data.toList b.data.toList))
  | _=>False
 | _,_=>False
section
variable (A:Ar) (P:Program) (ev:X->Option D) (hp:Hp) (f:Nat)
def opA (dr gd g:Bool) (i:I) (K:Prop->Eff->Prop):Prop:=
 let wr (d:D):D:=if gd then .when g d else d
 let fx (o:Prop) (d:D):Prop:=K (gImp g o) {d:=some (wr d)}
 match i with
 | .mov x=>evG g (ev x) fun o d=>K o {d:=some (wr d)}
 | .pick c a b=>evG g (ev c) fun o dc=>match dc with
  | .e (.v (.bool c))=>evG (g&&c) (ev a) fun oa da=>evG (g&&!c) (ev b) fun ob db=>
   match da,db with
   | .e (.v (.bool a)),.e (.v (.bool b))=>A.gb (if c then a else b) fun v=>K (o/\oa/\ob) {d:=some (wr (.bool v))}
   | _,_=>False
  | _=>False
 | .alloc zs=>gd=false/\K True {d:=some (.ref f 0),al:= [.box zs]}
 | .box x=>gd=false/\evG g (ev x) fun o d=>match d with
  | .agg ds=>K o {d:=some (.ref f 0),al:= [.box ds]}
  | d=>K (o/\d.stor=true) {d:=some (.ref f 0),al:= [.box [d]]}
 | .build zs ps=>evGs g (ps.map fun p=>ev p.2.2) fun o ds=>
   K (o/\buildOk zs.length ps ds)
    {d:=some (wr (.agg (fillD zs ((ps.zip ds).map fun (p,d)=>(p.1,p.2.1,d.cells)))))}
 | .lit k zs n ps=>gd=false/\(if n=0 then K True {d:=some .zs} /\ps= [] else evGs g (ps.map fun p=>ev p.2) fun o ds=>
   match litEs ds with
   | some es=>A.alt (fun _=>A.alt (fun _=>K (o/\allLen k es/\allIx n ps) {d:=some (.own f (fillE (List.replicate n zs) ((ps.map (·.1)).zip es))),al:= [.front n k]})
     (fun _=> ∃t m,hp t= .ids m/\K (o/\allLen k es/\allIx n ps) {d:=some (.e (.fs m (fillE (List.replicate n zs) ((ps.map (·.1)).zip es)))),wr:= [(t,.ids (m+1))],tc:= [t]}))
     (fun _=>K (o/\allLen k es/\allIx n ps) {d:=some (.vec f n k),al:= [.vec true k ((fillE (List.replicate n zs) ((ps.map (·.1)).zip es)).flatten.map .e)]})
   | none=>False)
 | .load agg n a=>evG g (ev a) fun o d=>match d with
  | .rp ds=>if agg then fx (o/\n<=ds.length) (.agg ((ds.take n).map .e)) else fx (o/\1<=ds.length) (.e (ds.getD 0 default))
  | .ref i off=>match hp i with
   | .box ds=>if agg then K (o/\off+n<=ds.length) {d:=some (wr (.agg ((ds.drop off).take n))),tc:= [i]}
    else K (o/\off<ds.length) {d:=some (wr (ds.getD off default)),tc:= [i]}
   | _=>False
  | .refs i off=>match hp i with
   | .box ds=>if agg then A.ld ds off n fun p cs=>K (o/\p) {d:=some (wr (.agg cs)),tc:= [i]}
    else A.ld1 ds off fun p c=>K (o/\p) {d:=some (wr c),tc:= [i]}
   | _=>False
  | .vref i off=>match hp i with
   | .vec _ _ ds=>if agg then A.ld ds off n fun p cs=>K (o/\p) {d:=some (wr (.agg cs)),tc:= [i]}
    else A.ld1 ds off fun p c=>K (o/\p) {d:=some (wr c),tc:= [i]}
   | _=>False
  | _=>False
 | .store _ n a x=>gd=false/\evG g (ev a) fun o d=>evG g (ev x) fun o' y=>match d with
  | .ref i off=>match hp i with
   | .box ds=>K (o/\o'/\y.cells.length=n/\off+n<=ds.length/\y.stor=true)
     {d:=none,wr:= [(i,.box (ds.take off++y.cells++ds.drop (off+n)))],tc:= [i]}
   | _=>False
  | .refs i off=>match hp i with
   | .box ds=>A.st ds off n y.cells fun p ds'=>K (o/\o'/\y.cells.length=n/\p/\y.stor=true) {d:=none,wr:= [(i,.box ds')],tc:= [i]}
   | _=>False
  | .vref i off=>match hp i with
   | .vec b k ds=>A.st ds off n y.cells fun p ds'=>K (o/\o'/\y.cells.length=n/\p/\y.stor=true) {d:=none,wr:= [(i,.vec b k ds')],tc:= [i]}
   | _=>False
  | _=>False
 | .nilc x=>evG g (ev x) fun o d=>match d with
  | .rp _ | .ref _ _ | .refs _ _ | .vref _ _=>K o {d:=some (wr d)}
  | _=>False
 | .bin op x y=>if gd then A.alt (fun _=>evG g (ev x) fun o d=>evG g (ev y) fun o' d'=>binA A op d d' fun p r=>K (o/\o'/\gImp g p) {d:=some (wr r)}) (fun _=>g=false/\ ∃d,K True {d:=some (.when g d)})
   else evG g (ev x) fun o d=>evG g (ev y) fun o' d'=>binA A op d d' fun p r=>K (o/\o'/\gImp g p) {d:=some (wr r)}
 | .isnil ne x=>evG g (ev x) fun o d=>match d with
  | .vec i _ _=>(match hp i with | .vec true _ _=>K o {d:=some (wr (.bool ne)),tc:= [i]} | _=>False)
  | .bs _ _ _ _=>K o {d:=some (wr (.bool ne))}
  | .e (.sl (_::_))=>K o {d:=some (wr (.bool ne))}
  | .e0=>K o {d:=some (wr (.bool ne))}
  | .e (.v (.slice none 0 0))=>K o {d:=some (wr (.bool (!ne)))}
  | _=>False
 | .binb op x y=>evG g (ev x) fun o d=>evG g (ev y) fun o' d'=>match op,d,d' with
  | .eql,.e (.v (.bool a)),.e (.v (.bool b))=>K (o/\o') {d:=some (wr (.bool (a==b)))}
  | .neq,.e (.v (.bool a)),.e (.v (.bool b))=>K (o/\o') {d:=some (wr (.bool (a !=b)))}
  | _,_,_=>False
 | .un op x=>evG g (ev x) fun o d=>match op,d with
  | .not,.e (.v (.bool b))=>K o {d:=some (wr (.bool (!b)))}
  | .neg,.e (.v (.int k n))=>fx (o/\A.R k (A.neg n)) (.v (.int k (A.neg n)))
  | _,_=>False
 | .convi k x=>evG g (ev x) fun o d=>match d with
  | .e (.v (.int _ n))=>fx (o/\A.R k n) (.v (.int k n))
  | _=>False
 | .convss x=>evG g (ev x) fun o d=>match d with
  | .e (.v (.string s))=>K o {d:=some (wr (.v (.string s)))}
  | _=>False
 | .convsb x=>gd=false/\evG g (ev x) fun o d=>match d with
  | .e (.v (.string s))=>A.s2b s.data.toList fun ys=>K o {d:=some (.e (.sl ys))}
  | _=>False
 | .convbs x=>evG g (ev x) fun o d=>match d.list with
  | some es=>A.b2s es fun p l=>fx (o/\p) (.str l)
  | none=>False
 | .mki t x=>evG g (ev x) fun o d=>match d with
  | .agg ds=>(match toEs ds with | some es=>K o {d:=some (wr (.e (.ia t es)))} | none=>False)
  | d=>(match d.toE with | some y=>K o {d:=some (wr (.e (.iv t y)))} | none=>False)
 | .mks zs n=>gd=false/\evG g (ev n) fun o d=>match d with
  | .e (.v (.int .i64 n))=>A.alt (fun _=>A.rep zs n fun ds m=>K (o/\A.lep 0 n/\A.lep n 2147483648) {d:=some (.bs f 0 m zs.length),al:= [.box ds]})
    (fun _=>A.rep zs n fun ds m=>K (o/\A.lep 0 n/\A.lep n 2147483648) {d:=some (.vec f m zs.length),al:= [.vec true zs.length ds]})
  | _=>False
 | .slice k0 x lo hi=>evG g (ev x) fun o d=>evO ev g lo fun ol l=>evO ev g hi fun oh h=>match d with
  | .bs i off n k=>fx (k=k0/\o/\ol/\oh/\A.lep 0 (l.getD 0)/\A.lep (l.getD 0) (h.getD n)/\A.lep (h.getD n) n) (.bs i (off+(A.nat (l.getD 0)) * k) (A.nat (A.sub (h.getD n) (l.getD 0))) k)
  | .vec i n k=>A.vsl n l h fun p m=>fx (k=k0/\o/\ol/\oh/\p) (.vec i m k)
  | d=>match d.list with
   | some es=>A.slc es k0 l h fun p zs=>fx (o/\ol/\oh/\p) (.e (.sl zs))
   | none=>False
 | .slstr x lo hi=>evG g (ev x) fun o d=>evO ev g lo fun ol l=>evO ev g hi fun oh h=>match d with
  | .e (.v (.string s))=>A.ssl s.data.toList l h fun p r=>fx (o/\ol/\oh/\p) (.str r)
  | _=>False
 | .fadr off x=>evG g (ev x) fun o d=>match d with
  | .rp ds=>K o {d:=some (wr (.rp (ds.drop off)))}
  | .ref i b=>K o {d:=some (wr (.ref i (b+off)))}
  | .refs i b=>A.plus b off fun b'=>K o {d:=some (wr (.refs i b'))}
  | .vref i b=>A.plus b off fun b'=>K o {d:=some (wr (.vref i b'))}
  | _=>False
 | .iadr arr k x i=>evG g (ev x) fun o d=>evG g (ev i) fun o' di=>match di with
  | .e (.v (.int _ n))=>(match arr with
   | none=>(match d with
    | .bs i off m k'=>A.off off n k fun b=>fx (o/\o'/\A.lep 0 n/\A.ltp n m/\k'=k) (.refs i b)
    | .vec i m k'=>(match hp i with
     | .vec _ _ _=>A.off 0 n k fun b=>K (gImp g (o/\o'/\A.lep 0 n/\A.ltp n m/\k'=k)) {d:=some (wr (.vref i b)),tc:= [i]}
     | _=>False)
    | d=>match d.list with
     | some es=>A.row es n fun p row=>fx (o/\o'/\p/\row.length=k) (.rp row)
     | none=>False)
   | some m=>match d with
    | .ref i off=>fx (o/\o'/\A.lep 0 n/\A.ltp n m) (.ref i (off+(A.nat n) * k))
    | .refs i off=>A.off off n k fun b=>fx (o/\o'/\A.lep 0 n/\A.ltp n m) (.refs i b)
    | .rp ds=>fx (o/\o'/\A.lep 0 n/\A.ltp n m) (.rp (ds.drop ((A.nat n) * k)))
    | _=>False)
  | _=>False
 | .fld agg off n x=>evG g (ev x) fun o d=>match d with
  | .agg ds=>if agg then fx (o/\off+n<=ds.length) (.agg ((ds.drop off).take n)) else fx (o/\off<ds.length) (ds.getD off default)
  | _=>False
 | .ixs x i=>evG g (ev x) fun o d=>evG g (ev i) fun o' di=>match d,di with
  | .e (.v (.string s)),.e (.v (.int _ n))=>A.six s.data.toList n fun p c=>fx (o/\o'/\p) (.v (.int .u8 c))
  | _,_=>False
 | .ixa agg len k x i=>evG g (ev x) fun o d=>evG g (ev i) fun o' di=>match d,di with
  | .agg ds,.e (.v (.int _ n))=>if agg then fx (o/\o'/\A.lep 0 n/\A.ltp n len/\(A.nat n) * k+k<=ds.length) (.agg ((ds.drop ((A.nat n) * k)).take k))
   else fx (o/\o'/\A.lep 0 n/\A.ltp n len/\A.ltp n ds.length) (ds.getD (A.nat n) default)
  | _,_=>False
 | .ext i x=>evG g (ev x) fun o d=>match d with
  | .tup ds=>fx (o/\i<ds.length) (ds.getD i default)
  | _=>False
 | .lens x=>evG g (ev x) fun o d=>match d with
  | .e (.v (.string s))=>A.slen s.data.toList dr g o fun z=>K o {d:=some (wr (.int z))}
  | _=>False
 | .lenl x=>evG g (ev x) fun o d=>match d with
  | .bs _ _ n _=>(dr=false->g=true->o->n<=maxN)->K o {d:=some (wr (.int n))}
  | .vec _ n _=>(dr=false->g=true->o->n<=maxN)->K o {d:=some (wr (.int n))}
  | d=>match d.list with
   | some es=>A.len es dr g o fun z=>K o {d:=some (wr (.int z))}
   | none=>False
 | .mn x y=>evG g (ev x) fun o d=>evG g (ev y) fun o' d'=>match d,d' with
  | .e (.v (.int k a)),.e (.v (.int k' b))=>fx (o/\o'/\k=k') (.v (.int k (A.mn a b)))
  | _,_=>False
 | .mx x y=>evG g (ev x) fun o d=>evG g (ev y) fun o' d'=>match d,d' with
  | .e (.v (.int k a)),.e (.v (.int k' b))=>fx (o/\o'/\k=k') (.v (.int k (A.mx a b)))
  | _,_=>False
 | .app k s x=>gd=false/\evG g (ev s) fun o d=>evG g (ev x) fun o' d'=>match d'.list with
  | some ys=>(match d with
   | .zs=>A.alt (fun _=>A.app0 ys k fun p m=>K (o/\o'/\p) {d:=some (.own f ys),al:= [.front m k]})
     (fun _=>A.app0v ys k fun p b m ds=>K (o/\o'/\p) {d:=some (.vec f m k),al:= [.vec b k ds]})
   | .vec i n k0=>(match hp i with
    | .vec b _ ds=>A.appv b ds n ys k fun p b' m ds'=>K (o/\o'/\k0=k/\p) {d:=some (.vec f m k),al:= [.vec b' k ds'],wr:= [(i,.gone)],tc:= [i]}
    | _=>False)
   | .own i es=>A.app es ys k (hp i) fun p zs m=>K (o/\o'/\p) {d:=some (.own i zs),wr:= [(i,.front m k)],tc:= [i]}
   | _=>False)
  | none=>(match d' with
   | .vec j m kk=>(match hp j with
    | .vec _ _ ds2=>(match d with
     | .zs=>A.vcut ds2 m k fun p cs=>A.appw false [] 0 cs m k fun q b' m' ds'=>K (o/\o'/\kk=k/\p/\q) {d:=some (.vec f m' k),al:= [.vec b' k ds'],tc:= [j]}
     | .vec i n k0=>(match hp i with
      | .vec b _ ds=>A.vcut ds2 m k fun p cs=>A.appw b ds n cs m k fun q b' m' ds'=>K (o/\o'/\k0=k/\kk=k/\p/\q)
        {d:=some (.vec f m' k),al:= [.vec b' k ds'],wr:= [(i,.gone)],tc:= [i,j]}
      | _=>False)
     | _=>False)
    | _=>False)
   | _=>False)
 | .apps s x=>gd=false/\evG g (ev s) fun o d=>evG g (ev x) fun o' d'=>match d' with
  | .e (.v (.string t))=>(match d with
   | .zs=>A.s2b t.data.toList fun ys=>A.app0 ys 1 fun p m=>K (o/\o'/\p) {d:=some (.own f ys),al:= [.front m 1]}
   | .own i es=>A.s2b t.data.toList fun ys=>A.app es ys 1 (hp i) fun p zs m=>K (o/\o'/\p) {d:=some (.own i zs),wr:= [(i,.front m 1)],tc:= [i]}
   | _=>False)
  | _=>False
 | .call fn xs=>evGs g (xs.map ev) fun o ds=>A.call P hp f gd g fn ds o K
 | .mkf fn a c=>evGs g (a.map ev) fun o ds=>evGs g (c.map ev) fun o' es=>K (o/\o') {d:=some (wr (.fn fn ds es))}
 | .callv x xs=>evG g (ev x) fun o d=>evGs g (xs.map ev) fun o' ds=>match d with
  | .fn (.func fn) a c=>(∃func,P.funcs[fn]?=some func/\func.name≠ "runtime.NumGoroutine" /\func.body.isNone=false)/\A.call P hp f gd g fn (a++ds++c) (o/\o') K
  | _=>False
 | .mkm=>gd=false/\K True {d:=some (.mp f),al:= [.smap []]}
 | .mget ok z m k=>evG g (ev m) fun o d=>evG g (ev k) fun o' d'=>match d,d' with
  | .mp i,.e (.v (.string s))=>(match hp i with
   | .smap l=>A.mget l s.data.toList (fun v=>K (o/\o') {d:=some (wr (if ok then .tup [.e v,.bool true] else .e v)),tc:= [i]})
     (fun _=>K (o/\o') {d:=some (wr (if ok then .tup [.e z,.bool false] else .e z)),tc:= [i]})
   | _=>False)
  | _,_=>False
 | .mput m k x=>gd=false/\evG g (ev m) fun o d=>evG g (ev k) fun o' d'=>evG g (ev x) fun o'' y=>match d,d',y.toE with
  | .mp i,.e (.v (.string s)),some v=>(match hp i with
   | .smap l=>A.mset l s.data.toList v fun l'=>K (o/\o'/\o'') {d:=none,wr:= [(i,.smap l')],tc:= [i]}
   | _=>False)
  | _,_,_=>False
 | .binst ne offs x y=>evG g (ev x) fun o d=>evG g (ev y) fun o' d'=>match d,d' with
  | .agg ds,.agg es=>eqAg A.eq offs ds es fun p c=>K (o/\o'/\gImp g p) {d:=some (wr (.bool (if ne then !c else c)))}
  | _,_=>False
 | .isnilI ne x=>evG g (ev x) fun o d=>match d with
  | .e (.v .nilIface)=>K o {d:=some (wr (.bool (!ne)))}
  | .e (.iv _ _)=>K o {d:=some (wr (.bool ne))}
  | .e (.ia _ _)=>K o {d:=some (wr (.bool ne))}
  | _=>False
 | .invk m x xs=>evG g (ev x) fun o d=>evGs g (xs.map ev) fun o' ds=>match d with
  | .e (.ia t es)=>A.inv P t m es fun fn d=>A.call P hp f gd g fn (d::ds) (o/\o') K
  | .e (.v .nilIface)=>gd=true/\g=false/\A.anyd fun d=>K True {d:=some (.when g d)}
  | _=>False
 | .bad=>False
end
theorem opA_std:opA Ar.std=opE:=by
 funext P ev hp f dr gd g i K
 cases i
 case load agg n a=>
  simp only [opA,opE]
  congr 1
  funext o d
  cases d <;>rfl
 case store agg n a x=>
  simp only [opA,opE]
  congr 2
  funext o d
  congr 1
  funext o' y
  cases d <;>rfl
 all_goals rfl
end Go.Proofs.YtfplalbognalkaaGreat.Ab
/- Each step of the small language is what the machine does: steps that write nothing. -/
namespace Go.Proofs.YtfplalbognalkaaGreat.Ab
open Go
def happ (h:Hp) (f:Nat) (eff:Eff):Hp:=fun i=>
 if f<=i/\i<f+eff.al.length then eff.al.getD (i-f) .dead else match eff.wr.find? (·.1==i) with | some x=>x.2 | none=>h i
def Rel (ev:X->Option D) (w:World) (G:Gh) (h:Hp) (a:Act):Prop:= ∀y x d,cvX y=some x->ev x=some d->Rv w G h (a.eval y) d
def StepL (P:Program) (o:Oper) (ev:X->Option D) (hpR:Hp) (f:Nat) (eff:Eff):Prop:=
 ∀(w:World) (G:Gh) (h:Hp) (a:Act) (K:Act->World->Prop) (Q:Exit->Act->World->Prop),Inv w G h->(∀i∈eff.tc,h i=hpR i)->
  (∀j,j<eff.al.length->h (f+j)= .dead)->Rel ev w G h a->
  (∀v w' G',(∀d,eff.d=some d->Rv w' G' (happ h f eff) v d)->Inv w' G' (happ h f eff)->Ext w G h w' G' (happ h f eff)->K (a.put o.dst v) w')->
  o.wp P a w K Q
section
variable {P:Program} {w:World} {G:Gh} {h:Hp}
theorem wp_of_run {o:Oper} {a:Act} {K:Act->World->Prop} {Q:Exit->Act->World->Prop} {v:Value} {w':World}
  (hr:(execOp a.eval o).run P w= .ok (.value v) w') (hk:K (a.put o.dst v) w'):o.wp P a w K Q:=by
 unfold Oper.wp;rw [hr];exact hk
theorem happ_pure (h:Hp) (f:Nat) (d:Option D) (tc:List Nat):happ h f {d:=d,tc:=tc} =h:=by
 funext i
 simp only [happ,List.length_nil,Nat.add_zero,List.find?_nil]
 rw [if_neg (by omega)]
theorem StepL.pure {o:Oper} {ev:X->Option D} {hpR:Hp} {f:Nat} {d:D} {tc:List Nat}
  (hs: ∀w G h a,Inv w G h->(∀i∈tc,h i=hpR i)->Rel ev w G h a-> ∃v,(execOp a.eval o).run P w= .ok (.value v) w/\Rv w G h v d):
  StepL P o ev hpR f {d:=some d,tc:=tc} :=by
 intro w G h a K Q hi ht _ hr hk
 obtain ⟨v,e,r⟩:=hs w G h a hi ht hr
 rw [happ_pure] at hk
 exact wp_of_run e (hk v w G (fun d' e'=>by cases e';exact r) hi (Ext.refl _ _ _))
theorem Rv.when_true {v:Value} {d:D} (r:Rv w G h v d):Rv w G h v (.when true d):= .when (fun _=>r) (fun e=>by cases e)
theorem rv_v {x y:Value} (r:Rv w G h x (.e (.v y))):x=y/\okV y=true:=by
 cases r with
 | e r=>cases r with | v hv=>exact ⟨rfl,hv⟩
theorem rv_int {x:Value} {k:IntKind} {n:Int} (r:Rv w G h x (.e (.v (.int k n)))):x= .int k n/\k.min<=n/\n<=k.max:=by
 obtain ⟨rfl,hv⟩:=rv_v r
 exact ⟨rfl,by simpa [okV] using hv⟩
theorem rv_agg {x:Value} {ds:List D} (r:Rv w G h x (.agg ds)): ∃cs:Array Value,x= .agg cs/\cs.size=ds.length/\(∀(j:Nat) c,cs[j]?=some c->c.oneCell'=true)/\
  ∀(j:Nat) c d,cs[j]?=some c->ds[j]?=some d->Rv w G h c d:=by
 cases r with | agg hl h1 hr=>exact ⟨_,rfl,hl,h1,hr⟩
theorem rv_tup {x:Value} {ds:List D} (r:Rv w G h x (.tup ds)): ∃cs:Array Value,x= .tuple cs/\cs.size=ds.length/\
  ∀(j:Nat) c d,cs[j]?=some c->ds[j]?=some d->Rv w G h c d:=by
 cases r with | tup hl hr=>exact ⟨_,rfl,hl,hr⟩
theorem rv_list {x:Value} {d:D} {es:List (List E)} (r:Rv w G h x d) (hl:d.list=some es):
  (∃a,x= .slice a 0 0/\es= []/\ ∀y,a=some y->y.spot=none)\/RvE w G x (.sl es):=by
 cases d with
 | e y=>
  cases y <;>simp [D.list] at hl
  ·subst hl;cases r with | e r=>exact .inr r
  ·subst hl;cases r with | e r=>exact .inr r.unfs
 | own i ys=>simp [D.list] at hl;subst hl;cases r with | own hx _ _=>exact .inr hx
 | zs=>simp [D.list] at hl;subst hl;cases r with | zs ha=>exact .inl ⟨_,rfl,rfl,ha⟩
 | e0=>simp [D.list] at hl;subst hl;cases r with | e0=>exact .inr (.nils fun h=>by cases h)
 | _=>simp [D.list] at hl
theorem rve_sl {x:Value} {es:List (List E)} (r:RvE w G x (.sl es)):
  (∃(a:Option Addr) (cap:Nat),x= .slice a 0 cap/\es= []/\(a=none->cap=0))\/ ∃(b off cap k:Nat) (u:Nat->Value),x= .slice (some ⟨b,off,none⟩) es.length cap/\es.length<=cap/\es.length<=maxN/\(∀e∈es,e.length=k)/\
   (∀j,j<es.length * k->G.pub b (off+j)/\w.cell? ⟨b,off+j,none⟩=some (u j))/\(∀j d,es.flatten[j]?=some d->RvE w G (u j) d):=by
 cases r with
 | nils h=>exact .inl ⟨_,_,rfl,rfl,h⟩
 | sl u hn hc hm hk hp hr=>subst hn;exact .inr ⟨_,_,_,_,u,rfl,hc,hm,hk,hp,hr⟩
theorem flatten_get {es:List (List E)} {k:Nat} (hk: ∀e∈es,e.length=k): ∀(i:Nat) (e:List E) (j:Nat),es[i]?=some e->j<k->es.flatten[i * k+j]?=e[j]?:=by
 induction es with
 | nil=>intro i e j he;simp at he
 | cons x es ih=>
  intro i e j he hj
  have hx:x.length=k:=hk x (by simp)
  cases i with
  | zero=>
   simp at he;subst he
   simp [List.getElem?_append_left (show j<x.length by omega)]
  | succ i=>
   simp at he
   rw [List.flatten_cons,List.getElem?_append_right (by rw [hx,Nat.succ_mul];omega),hx,show (i+1) * k+j-k=i * k+j by rw [Nat.succ_mul];omega]
   exact ih (fun e he=>hk e (by simp [he])) i e j he hj
theorem flatten_len {es:List (List E)} {k:Nat} (hk: ∀e∈es,e.length=k):es.flatten.length=es.length * k:=by
 induction es with
 | nil=>simp
 | cons x es ih=>simp [ih (fun e he=>hk e (by simp [he])),hk x (by simp),Nat.succ_mul,Nat.add_comm]
theorem addr_add (b off n:Nat):(⟨b,off,none⟩:Addr).add n=⟨b,off+n,none⟩:=by unfold Addr.add;split <;>simp_all
theorem info_of_cells {P:Program} {t:TypeId} (h:P.cellsOf t≠0): ∃i,P.info? t=some i:=by
 unfold Program.cellsOf at h
 cases hi:P.info? t with
 | none=>simp [hi] at h
 | some i=>exact ⟨i,rfl⟩
theorem info_of_under {P:Program} {t:TypeId} {d:TypeDesc} (h:P.underlying t=some d): ∃i,P.info? t=some i:=by
 unfold Program.underlying at h
 cases hi:P.info? t with
 | none=>simp [hi] at h
 | some i=>exact ⟨i,rfl⟩
theorem run_size {P:Program} {w:World} {t:TypeId} (h:P.cellsOf t≠0):(sizeOf t).run P w= .ok (P.cellsOf t) w:=by
 obtain ⟨i,hi⟩:=info_of_cells h
 exact run_sizeOf w hi
theorem run_isAgg' {P:Program} {w:World} {t:TypeId} {d:TypeDesc} (h:P.underlying t=some d):(isAgg t).run P w= .ok (isAggB P t) w:=by
 simp only [isAgg,Sem.run_bind,run_underlying h,Result.andThen,isAggB,h]
 cases d <;>rfl
theorem evG_spec {g:Bool} {x:Option D} {K:Prop->D->Prop} (hk:evG g x K):
  ∃o d,K o d/\ ∀ {w G h v},(∀d',x=some d'->Rv w G h v d')->g=true->o->Rv w G h v d:=by
 unfold evG at hk
 split at hk
 ·exact hk.elim
 ·rename_i g' d
  refine ⟨_,d,hk,fun hr hg ho=>?_⟩
  have:=hr _ rfl
  cases this with | when hr _=>exact hr (gImp_iff.1 ho hg)
 ·rename_i d _
  exact ⟨_,d,hk,fun hr _ _=>hr d rfl⟩
theorem evGs_spec {g:Bool} : ∀ {xs:List (Option D)} {K:Prop->List D->Prop},evGs g xs K->
  ∃o ds,K o ds/\ds.length=xs.length/\ ∀ {w G h},g=true->o-> ∀(j:Nat) v d,(∀d',xs[j]?=some (some d')->Rv w G h v d')->ds[j]?=some d->Rv w G h v d:=by
 intro xs
 induction xs with
 | nil=>intro K hk;exact ⟨_,_,hk,rfl,fun _ _ j v d _ hd=>by simp at hd⟩
 | cons x r ih=>
  intro K hk
  obtain ⟨o,d,hk,h1⟩:=evG_spec hk
  obtain ⟨o',ds,hk,hl,h2⟩:=ih hk
  refine ⟨_,_,hk,by simp [hl],fun hg ⟨ho,ho'⟩ j v d' hr hd=>?_⟩
  cases j with
  | zero=>simp at hd;subst hd;exact h1 (fun d' e=>hr d' (by simp [e])) hg ho
  | succ j=>exact h2 hg ho' j v d' (fun d' e=>hr d' (by simpa using e)) (by simpa using hd)
theorem cvD_rel {w:World} {G:Gh} {h:Hp} {v:Value} {d:D} (hc:cvD v=some d):Rv w G h v d:=by
 unfold cvD at hc
 split at hc
 ·cases hc;exact .zs (by simp)
 ·split at hc
  ·rename_i hv;cases hc;exact .e (.v hv)
  ·cases hc
theorem rel_of {w:World} {G:Gh} {h:Hp} {a:Act} {ev:X->Option D} (hc: ∀d,ev (.c d)=some d) (hs: ∀t d,ev (.s t)=some d->Rv w G h (a.tmps.getD t undef) d):Rel ev w G h a:=by
 intro y x d hy hx
 cases y with
 | tmp t=>simp [cvX] at hy;subst hy;exact hs t d hx
 | const v=>
  simp only [cvX,Option.map_eq_some_iff] at hy
  obtain ⟨d',h1,rfl⟩:=hy
  rw [hc] at hx;cases hx
  exact cvD_rel h1
 | global g=>simp [cvX] at hy
 | func f=>simp [cvX] at hy;subst hy;rw [hc] at hx;cases hx;exact .fn (first:= #[]) (caps:= #[]) rfl (by simp) rfl (by simp)
end
theorem wrap_in {k:IntKind} {n:Int} (h:inR k n):k.wrap n=n/\k.min<=n/\n<=k.max:=by
 cases k <;>simp [inR,IntKind.min,IntKind.max,IntKind.signed,IntKind.bits] at h <;>simp [IntKind.wrap,IntKind.min,IntKind.max,IntKind.signed,IntKind.bits] <;>(try split) <;>omega
theorem rv_mkint {w G h} {k:IntKind} {n:Int} (h1:k.min<=n/\n<=k.max):Rv w G h (.int k n) (.e (.v (.int k n))):= .e (.v (by simp [okV,h1]))
theorem rv_mkbool {w G h} (b:Bool):Rv w G h (.bool b) (.bool b):= .e (.v rfl)
theorem rv_mkstr {w G h} {l:List UInt8} (hl:l.length<=maxN):Rv w G h (.string ⟨⟨l⟩⟩) (.str l):= .e (.v (by simp [okV,ByteArray.size];exact hl))
theorem binE_spec {P:Program} {op:BinOp} {x y:D} {K:Prop->D->Prop} (hk:binE op x y K):
  ∃p d,K p d/\ ∀ {w G h vx vy} (t:TypeId) (X Y:Operand),Rv w G h vx x->Rv w G h vy y->p->
   ∃v,(do eqGuard op t X Y vx vy;binOp op t vx vy:Sem Value).run P w= .ok v w/\Rv w G h v d:=by
 unfold binE at hk
 split at hk
 ·rename_i k a k' b
  cases op <;>simp only at hk <;>first | exact hk.elim | skip
  all_goals
   refine ⟨_,_,hk,fun t X Y hx hy hp=>?_⟩
   obtain ⟨rfl,hx1,hx2⟩:=rv_int hx
   obtain ⟨rfl,hy1,hy2⟩:=rv_int hy
  case add=>obtain ⟨rfl,hp⟩:=hp;obtain ⟨h1,h2⟩:=wrap_in hp;exact ⟨_,by simp [eqGuard,binOp,Op.intArith,h1],rv_mkint h2⟩
  case sub=>obtain ⟨rfl,hp⟩:=hp;obtain ⟨h1,h2⟩:=wrap_in hp;exact ⟨_,by simp [eqGuard,binOp,Op.intArith,h1],rv_mkint h2⟩
  case mul=>obtain ⟨rfl,hp⟩:=hp;obtain ⟨h1,h2⟩:=wrap_in hp;exact ⟨_,by simp [eqGuard,binOp,Op.intArith,h1],rv_mkint h2⟩
  case quo=>
   obtain ⟨rfl,h0,h1,hr⟩:=hp
   have hr':inR k (a / b):=by
    have e1:0<=a / b:=Int.ediv_nonneg h0 (by omega)
    have e2:a / b<=a:=Int.ediv_le_self b h0
    cases k <;>simp [inR,IntKind.min,IntKind.max,IntKind.signed,IntKind.bits] at hr ⊢ <;>omega
   obtain ⟨h2,h3⟩:=wrap_in hr'
   exact ⟨_,by simp [eqGuard,binOp,Op.intDiv,show b≠0 by omega,Int.tdiv_eq_ediv_of_nonneg h0,h2],rv_mkint h3⟩
  case rem=>
   obtain ⟨rfl,h0,h1⟩:=hp
   have e1:0<=a % b:=Int.emod_nonneg _ (by omega)
   have e2:a % b<=a:=by
    rcases Int.lt_or_le a b with h | h
    ·rw [Int.emod_eq_of_lt h0 h];exact Int.le_refl _
    ·have:=Int.emod_lt_of_pos a h1;omega
   have e3:k.min<=0:=by cases k <;>decide
   exact ⟨.int k (a % b),by simp [eqGuard,binOp,Op.intDiv,show b≠0 by omega,Int.tmod_eq_emod_of_nonneg h0],rv_mkint ⟨by omega,by omega⟩⟩
  case shr=>
   obtain ⟨rfl,h0⟩:=hp
   have e3:k.min<=0:=by cases k <;>decide
   have e4:min (Int.toNat 1) k.bits=1:=by cases k <;>rfl
   have e5:a.fdiv 2=a / 2:=Int.fdiv_eq_ediv_of_nonneg a (by omega)
   exact ⟨.int k (a / 2),by simp only [eqGuard,binOp,Op.shift,e4];simp [e5],rv_mkint ⟨by omega,by omega⟩⟩
  case eql=>obtain rfl:=hp;exact ⟨.bool (decide (a=b)),by simp only [eqGuard,binOp,Op.intCmp];simp;by_cases e:a=b <;>simp [e],rv_mkbool _⟩
  case neq=>obtain rfl:=hp;exact ⟨.bool (!decide (a=b)),by simp only [eqGuard,binOp,Op.intCmp];simp;by_cases e:a=b <;>simp [e],rv_mkbool _⟩
  all_goals (obtain rfl:=hp;exact ⟨_,by simp [eqGuard,binOp,Op.intCmp],rv_mkbool _⟩)
 ·rename_i a b
  cases op <;>simp only at hk <;>first | exact hk.elim | skip
  all_goals
   refine ⟨_,_,hk,fun t X Y hx hy hp=>?_⟩
   obtain ⟨rfl,_⟩:=rv_v hx
   obtain ⟨rfl,_⟩:=rv_v hy
  ·have hs: ¬(((a.size+b.size:Nat):Int)>IntKind.i64.max):=by
    have e1:a.data.toList.length=a.size:=rfl
    have e2:b.data.toList.length=b.size:=rfl
    rw [e1,e2] at hp
    simp only [maxN] at hp
    simp only [IntKind.max,IntKind.signed,IntKind.bits]
    simp
    omega
   refine ⟨.string (a++b),?_,?_⟩
   ·simp only [eqGuard,binOp,Op.stringOp]
    rw [if_neg hs]
    simp
   ·have:a++b=⟨⟨a.data.toList++b.data.toList⟩⟩:=by
     apply ByteArray.ext
     apply Array.ext'
     simp [ByteArray.data_append]
    rw [this]
    exact rv_mkstr (by simp at hp ⊢;exact hp)
  ·exact ⟨.bool (decide (a.data.toList=b.data.toList)),by simp only [eqGuard,binOp,Op.stringOp,ByteArray.toList_eq];by_cases e:a.data=b.data <;>simp [e],rv_mkbool _⟩
  ·exact ⟨.bool (!decide (a.data.toList=b.data.toList)),by simp only [eqGuard,binOp,Op.stringOp,ByteArray.toList_eq];by_cases e:a.data=b.data <;>simp [e],rv_mkbool _⟩
 ·exact hk.elim
end Go.Proofs.YtfplalbognalkaaGreat.Ab
/- Each step of the small language is what the machine does: the steps that only read. -/
namespace Go.Proofs.YtfplalbognalkaaGreat.Ab
open Go
def Sound (P:Program) (o:Oper) (ev:X->Option D) (hpR:Hp) (f:Nat) (gd g:Bool) (K:Prop->Eff->Prop):Prop:=
 ∃ow eff,K ow eff/\(gd=true->g=false->eff.al= []/\eff.wr= []/\ ∃d,eff.d=some (.when g d))/\(∀x∈eff.wr,x.1∈eff.tc)/\(ow->g=true->StepL P o ev hpR f eff)
section
variable {P:Program} {o:Oper} {ev:X->Option D} {hpR:Hp} {f:Nat} {dr gd g:Bool} {K:Prop->Eff->Prop}
theorem Sound.pure {ow:Prop} {d:D} {tc:List Nat} (hk:K ow {d:=some (if gd then .when g d else d),tc:=tc})
  (hs:ow->g=true-> ∀w G h a,Inv w G h->(∀i∈tc,h i=hpR i)->Rel ev w G h a-> ∃v,(execOp a.eval o).run P w= .ok (.value v) w/\Rv w G h v d):
  Sound P o ev hpR f gd g K:=by
 refine ⟨ow,_,hk,fun hg _=>⟨rfl,rfl,d,by rw [if_pos hg]⟩,by simp,fun ho hg=>?_⟩
 subst hg
 refine StepL.pure fun w G h a hi ht hr=>?_
 obtain ⟨v,e,r⟩:=hs ho rfl w G h a hi ht hr
 refine ⟨v,e,?_⟩
 split
 ·exact r.when_true
 ·exact r
theorem Sound.fx {p:Prop} {d:D} (hk:K (gImp g p) {d:=some (if gd then .when g d else d)})
  (hs:p->g=true-> ∀w G h a,Inv w G h->Rel ev w G h a-> ∃v,(execOp a.eval o).run P w= .ok (.value v) w/\Rv w G h v d):
  Sound P o ev hpR f gd g K:=
 Sound.pure (tc:= []) hk fun ho hg w G h a hi _ hr=>hs (gImp_iff.1 ho hg) hg w G h a hi hr
theorem exec_v {s:Sem Value} {w w':World} {v:Value} (h:s.run P w= .ok v w'):(do pure (Next.value (<-s)):Sem Next).run P w= .ok (.value v) w':=by
 simp [h,Result.andThen]
variable {dst:Option Nat} {ty:TypeId} {pos:String} {after:Array Edge} {gu:Option (Nat×Bool)}
theorem s_mov {y:Operand} {x:X} (hy:cvX y=some x) {op:Op} (hop:op= .move y\/op= .assign y)
  (hk:opE P ev hpR f dr gd g (.mov x) K):Sound P ⟨dst,op,ty,pos,after,gu⟩ ev hpR f gd g K:=by
 simp only [opE] at hk
 obtain ⟨ow,d,hk1,hs⟩:=evG_spec hk
 refine Sound.pure (tc:= []) hk1 fun ho hg w G h a hi _ hr=>⟨a.eval y,?_,hs (fun d' e=>hr y x d' hy e) hg ho⟩
 rcases hop with rfl | rfl <;>simp [execOp]
theorem s_pick {yc ya yb:Operand} {c a b:X} (hc:cvX yc=some c) (ha:cvX ya=some a) (hb:cvX yb=some b)
  (hk:opE P ev hpR f dr gd g (.pick c a b) K):Sound P ⟨dst,.pick yc ya yb,ty,pos,after,gu⟩ ev hpR f gd g K:=by
 simp only [opE] at hk
 obtain ⟨o1,d1,hk1,h1⟩:=evG_spec hk
 split at hk1
 case h_2=>exact hk1.elim
 rename_i c'
 obtain ⟨o2,d2,hk2,h2⟩:=evG_spec hk1
 obtain ⟨o3,d3,hk3,h3⟩:=evG_spec hk2
 split at hk3
 case h_2=>exact hk3.elim
 rename_i a' b'
 refine Sound.pure (tc:= []) hk3 fun ⟨p1,p2,p3⟩ hg w G h r hi _ hr=>?_
 obtain ⟨e1,_⟩:=rv_v (h1 (fun d' e=>hr yc c d' hc e) hg p1)
 subst hg
 cases c' with
 | true=>
  obtain ⟨e2,_⟩:=rv_v (h2 (fun d' e=>hr ya a d' ha e) rfl p2)
  exact ⟨.bool a',by simp [execOp,e1,asBool,e2],rv_mkbool _⟩
 | false=>
  obtain ⟨e3,_⟩:=rv_v (h3 (fun d' e=>hr yb b d' hb e) rfl p3)
  exact ⟨.bool b',by simp [execOp,e1,asBool,e3],rv_mkbool _⟩
theorem s_bin {op:BinOp} {t t':TypeId} {yx yy:Operand} {x y:X} (hx:cvX yx=some x) (hy:cvX yy=some y)
  (hk:opE P ev hpR f dr gd g (.bin op x y) K):Sound P ⟨dst,.binOp op t yx yy t',ty,pos,after,gu⟩ ev hpR f gd g K:=by
 have key:(evG g (ev x) fun o d=>evG g (ev y) fun o' d'=>binE op d d' fun p r=>K (o/\o'/\gImp g p) {d:=some (if gd then .when g r else r)})->Sound P ⟨dst,.binOp op t yx yy t',ty,pos,after,gu⟩ ev hpR f gd g K:=fun hk=>by
  obtain ⟨o1,d1,hk1,h1⟩:=evG_spec hk
  obtain ⟨o2,d2,hk2,h2⟩:=evG_spec hk1
  obtain ⟨p,d,hk3,hs⟩:=binE_spec (P:=P) hk2
  refine Sound.pure (tc:= []) hk3 fun ⟨p1,p2,p3⟩ hg w G h a hi _ hr=>?_
  obtain ⟨v,e,r⟩:=hs t yx yy (h1 (fun d' e=>hr yx x d' hx e) hg p1) (h2 (fun d' e=>hr yy y d' hy e) hg p2) (gImp_iff.1 p3 hg)
  exact ⟨v,exec_v e,r⟩
 simp only [opE] at hk
 split at hk
 ·rename_i hgd
  rcases hk with hk | ⟨hg,d,hk⟩
  ·refine key ?_
   simp only [if_pos hgd]
   exact hk
  ·exact ⟨True,_,hk,fun _ _=>⟨rfl,rfl,d,rfl⟩,by simp,fun _ hg'=>by rw [hg] at hg';cases hg'⟩
 ·rename_i hgd
  refine key ?_
  simp only [if_neg hgd]
  exact hk
theorem s_binb {op:BinOp} {t t':TypeId} {yx yy:Operand} {x y:X} (hx:cvX yx=some x) (hy:cvX yy=some y) (ht:P.underlying t=some .bool)
  (hk:opE P ev hpR f dr gd g (.binb op x y) K):Sound P ⟨dst,.binOp op t yx yy t',ty,pos,after,gu⟩ ev hpR f gd g K:=by
 simp only [opE] at hk
 obtain ⟨o1,d1,hk1,h1⟩:=evG_spec hk
 obtain ⟨o2,d2,hk2,h2⟩:=evG_spec hk1
 split at hk2
 case h_3=>exact hk2.elim
 all_goals
  rename_i a b
  refine Sound.pure (tc:= []) hk2 fun ⟨p1,p2⟩ hg w G h r hi _ hr=>?_
  obtain ⟨e1,_⟩:=rv_v (h1 (fun d' e=>hr yx x d' hx e) hg p1)
  obtain ⟨e2,_⟩:=rv_v (h2 (fun d' e=>hr yy y d' hy e) hg p2)
 ·exact ⟨.bool (a==b),exec_v (w':=w) (by simp [e1,e2,eqGuard,binOp,run_equal_bool _ t a b ht]),rv_mkbool _⟩
 ·exact ⟨.bool (a !=b),exec_v (w':=w) (by simp [e1,e2,eqGuard,binOp,run_equal_bool _ t a b ht,bne]),rv_mkbool _⟩
theorem run_part_int (P:Program) (w:World) {t:TypeId} {k:IntKind} (ht:P.underlying t=some (.int k)) {xs:Array Value} {off:Nat} {v:Value} (hx:xs[off]?=some v):(part t xs off).run P w= .ok v w:=by
 simp [part,isAgg,run_underlying ht,hx,Result.andThen]
theorem eqAg_spec {P:Program} : ∀(fs:List Field) {ds es:List D} {K:Prop->Bool->Prop},(∀f∈fs,f.name≠ "_" /\ ∃k,P.underlying f.type=some (.int k))->eqAg (fun a b=>decide (a=b)) (fs.map (·.offset)) ds es K->
  ∃p c,K p c/\ ∀ {w:World} {G:Gh} {h:Hp} {xs ys:Array Value} (d:Nat),Rv w G h (.agg xs) (.agg ds)->Rv w G h (.agg ys) (.agg es)->p->(Op.eqFields (d+1) xs ys fs).run P w= .ok c w
 | [],ds,es,K,_,hk=>⟨True,true,hk,fun d _ _ _=>by simp [Op.eqFields]⟩
 | f::fs,ds,es,K,hf,hk=>by
  simp only [List.map_cons,eqAg] at hk
  split at hk
  case h_2=>exact hk.elim
  rename_i k a k' b e1 e2
  obtain ⟨p,c,h1,h2⟩:=eqAg_spec fs (fun g hg=>hf g (List.mem_cons_of_mem _ hg)) hk
  refine ⟨_,_,h1,fun {w G h xs ys} d rx ry hp=>?_⟩
  obtain ⟨rfl,hp⟩:=hp
  have get: ∀ {xs:Array Value} {ds:List D} {a:Int},Rv w G h (.agg xs) (.agg ds)->ds.getD f.offset .any= .e (.v (.int k a))->xs[f.offset]?=some (.int k a):=fun {xs ds a} r e=>by
   obtain ⟨cs,e0,hl,_,hr⟩:=rv_agg r
   cases e0
   have hlt:f.offset<ds.length:=by
    rcases Nat.lt_or_ge f.offset ds.length with q | q
    ·exact q
    ·rw [List.getD,List.getElem?_eq_none q] at e;cases e
   have hd:ds[f.offset]?=some (.e (.v (.int k a))):=by
    rw [List.getD,List.getElem?_eq_getElem hlt] at e
    rw [List.getElem?_eq_getElem hlt]
    exact congrArg some e
   have hx:xs[f.offset]?=some (xs[f.offset]'(by omega)):=by simp [show f.offset<xs.size by omega]
   rw [hx]
   obtain ⟨q,_⟩:=rv_v (hr f.offset _ _ hx hd)
   rw [q]
  obtain ⟨hn,k2,ht⟩:=hf f List.mem_cons_self
  simp only [Op.eqFields]
  rw [if_pos hn]
  simp only [Sem.run_bind,run_part_int P w ht (get rx e1),run_part_int P w ht (get ry e2),Result.andThen_ok,run_equalIn_int w d f.type k k2 a b ht]
  have hab:(a==b)=decide (a=b):=by
   by_cases q:a=b <;>simp [q]
  rw [hab]
  cases decide (a=b) with
  | false=>simp
  | true=>simpa using h2 d rx ry hp
theorem s_binst {op:BinOp} {t t':TypeId} {fs:Array Field} {yx yy:Operand} {x y:X} {ne:Bool} (hx:cvX yx=some x) (hy:cvX yy=some y) (ht:P.underlying t=some (.struct fs))
  (hc:(fs.toList.all (fun fd=>fd.name != "_" &&isIntB P fd.type)&&!P.stoodInHeld t&&!P.eqGuardType P.depth t)=true) (hop:(op= .eql/\ne=false)\/(op= .neq/\ne=true))
  (hk:opE P ev hpR f dr gd g (.binst ne (fs.toList.map (·.offset)) x y) K):Sound P ⟨dst,.binOp op t yx yy t',ty,pos,after,gu⟩ ev hpR f gd g K:=by
 simp only [Bool.and_eq_true,Bool.not_eq_true'] at hc
 obtain ⟨⟨hfs,hst⟩,hgu⟩:=hc
 have hfs': ∀f∈fs.toList,f.name≠ "_" /\ ∃k,P.underlying f.type=some (.int k):=fun f hf=>by
  have:=List.all_eq_true.1 hfs f hf
  simp only [Bool.and_eq_true,bne_iff_ne,ne_eq] at this
  refine ⟨this.1,?_⟩
  have h2:=this.2
  unfold isIntB at h2
  split at h2
  ·exact ⟨_,by assumption⟩
  ·cases h2
 have hfo:P.fieldsOf t=fs:=by simp [Program.fieldsOf,ht]
 simp only [opE] at hk
 obtain ⟨o1,d1,hk1,h1⟩:=evG_spec hk
 obtain ⟨o2,d2,hk2,h2⟩:=evG_spec hk1
 split at hk2
 case h_2=>exact hk2.elim
 rename_i ds es
 obtain ⟨p,c,hk3,hs⟩:=eqAg_spec fs.toList hfs' hk2
 refine Sound.pure (tc:= []) hk3 fun ⟨p1,p2,p3⟩ hg w G h r hi _ hr=>?_
 have rx:=h1 (fun d' e=>hr yx x d' hx e) hg p1
 have ry:=h2 (fun d' e=>hr yy y d' hy e) hg p2
 have agg: ∀ {v:Value} {ds:List D},Rv w G h v (.agg ds)-> ∃xs,v= .agg xs:=fun {v ds} r=>(rv_agg r).elim fun cs h=>⟨cs,h.1⟩
 obtain ⟨xs,ex⟩:=agg rx
 obtain ⟨ys,ey⟩:=agg ry
 have hrun:=hs 9998 (ex▸rx) (ey▸ry) (gImp_iff.1 p3 hg)
 have heq:(Op.equalIn 10000 t (.agg xs) (.agg ys)).run P w= .ok c w:=by
  rw [run_equalIn_agg w 9999 t xs ys (by rw [hfo];exact ht) hst,hfo]
  exact hrun
 rcases hop with ⟨rfl,rfl⟩ | ⟨rfl,rfl⟩
 ·exact ⟨.bool c,exec_v (w':=w) (by rw [ex,ey];simp only [Sem.run_bind,run_eqGuard_agg w .eql t yx yy xs ys hgu,Result.andThen_ok,run_eql_struct,heq]),rv_mkbool _⟩
 ·exact ⟨.bool (!c),exec_v (w':=w) (by rw [ex,ey];simp only [Sem.run_bind,run_eqGuard_agg w .neq t yx yy xs ys hgu,Result.andThen_ok,run_neq_struct,heq]),rv_mkbool _⟩
theorem run_nil_eq (P:Program) (w:World) {t e:TypeId} (x:Option Addr) (n c:Nat) (ht:P.underlying t=some (.slice e)):(Op.equal t (.slice x n c) (.slice none 0 0)).run P w= .ok x.isNone w:=by
 show (Op.equalIn (9999+1) t (.slice x n c) (.slice none 0 0)).run P w= .ok x.isNone w
 generalize 9999=d
 cases x <;>simp [Op.equalIn,run_underlying ht,Result.andThen]
theorem run_nilI_eq (P:Program) (w:World) {t:TypeId} {ms} (ht:P.underlying t=some (.interface ms)):(Op.equal t .nilIface .nilIface).run P w= .ok true w/\ ∀u x,(Op.equal t (.iface u x) .nilIface).run P w= .ok false w:=by
 refine ⟨?_,fun u x=>?_⟩
 ·show (Op.equalIn (9999+1) t .nilIface .nilIface).run P w= .ok true w
  generalize 9999=d
  simp [Op.equalIn,run_underlying ht,Result.andThen]
 ·show (Op.equalIn (9999+1) t (.iface u x) .nilIface).run P w= .ok false w
  generalize 9999=d
  simp [Op.equalIn,run_underlying ht,Result.andThen]
theorem s_isnilI {op:BinOp} {t t':TypeId} {ms} {yx yy:Operand} {x:X} {ne:Bool} (hx:cvX yx=some x) (hy:cvX yy=some (.c (.e (.v .nilIface)))) (ht:P.underlying t=some (.interface ms)) (hop:(op= .eql/\ne=false)\/(op= .neq/\ne=true))
  (hk:opE P ev hpR f dr gd g (.isnilI ne x) K):Sound P ⟨dst,.binOp op t yx yy t',ty,pos,after,gu⟩ ev hpR f gd g K:=by
 have hny:yy= .const .nilIface:=by
  cases yy with
  | const v=>
   simp only [cvX,Option.map_eq_some_iff] at hy
   obtain ⟨d,h1,h2⟩:=hy
   cases h2
   unfold cvD at h1
   split at h1
   ·cases h1
   ·split at h1
    ·cases h1;rfl
    ·cases h1
  | _=>simp [cvX] at hy
 subst hny
 obtain ⟨q1,q2⟩:=(fun w=>run_nilI_eq P w ht: ∀w,_) |>fun h=>And.intro (fun w=>(h w).1) (fun w=>(h w).2)
 simp only [opE] at hk
 obtain ⟨o1,d1,hk1,h1⟩:=evG_spec hk
 have run0: ∀ {w:World} {a:Act},a.eval yx= .nilIface->(execOp a.eval ⟨dst,.binOp op t yx (.const .nilIface) t',ty,pos,after,gu⟩).run P w= .ok (.value (.bool !ne)) w:=fun {w a} e=>by
  rcases hop with ⟨rfl,rfl⟩ | ⟨rfl,rfl⟩
  ·exact exec_v (w':=w) (by rw [show a.eval (.const .nilIface)= .nilIface from rfl,e];simp [eqGuard,binOp,q1,Result.andThen])
  ·exact exec_v (w':=w) (by rw [show a.eval (.const .nilIface)= .nilIface from rfl,e];simp [eqGuard,binOp,q1,Result.andThen])
 have run1: ∀ {w:World} {a:Act} {u z},a.eval yx= .iface u z->(execOp a.eval ⟨dst,.binOp op t yx (.const .nilIface) t',ty,pos,after,gu⟩).run P w= .ok (.value (.bool ne)) w:=fun {w a u z} e=>by
  rcases hop with ⟨rfl,rfl⟩ | ⟨rfl,rfl⟩
  ·exact exec_v (w':=w) (by rw [show a.eval (.const .nilIface)= .nilIface from rfl,e];simp [eqGuard,binOp,q2,Result.andThen])
  ·exact exec_v (w':=w) (by rw [show a.eval (.const .nilIface)= .nilIface from rfl,e];simp [eqGuard,binOp,q2,Result.andThen])
 split at hk1
 ·refine Sound.pure (tc:= []) hk1 fun p1 hg w G h a hi _ hr=>?_
  obtain ⟨e1,_⟩:=rv_v (h1 (fun d' e=>hr yx x d' hx e) hg p1)
  exact ⟨_,run0 e1,rv_mkbool _⟩
 ·refine Sound.pure (tc:= []) hk1 fun p1 hg w G h a hi _ hr=>?_
  have hv:=h1 (fun d' e=>hr yx x d' hx e) hg p1
  obtain ⟨v,hev⟩: ∃v,v=a.eval yx:=⟨_,rfl⟩
  rw [<-hev] at hv
  cases hv with
  | e hv=>cases hv with | iv _=>exact ⟨_,run1 hev.symm,rv_mkbool _⟩
 ·refine Sound.pure (tc:= []) hk1 fun p1 hg w G h a hi _ hr=>?_
  have hv:=h1 (fun d' e=>hr yx x d' hx e) hg p1
  obtain ⟨v,hev⟩: ∃v,v=a.eval yx:=⟨_,rfl⟩
  rw [<-hev] at hv
  cases hv with
  | e hv=>cases hv with | ia _ _=>exact ⟨_,run1 hev.symm,rv_mkbool _⟩
 ·exact hk1.elim
theorem s_isnil {op:BinOp} {t t' e:TypeId} {yx yy:Operand} {x:X} {ne:Bool} (hx:cvX yx=some x) (hy:cvX yy=some (.c .zs)) (ht:P.underlying t=some (.slice e)) (hop:(op= .eql/\ne=false)\/(op= .neq/\ne=true))
  (hk:opE P ev hpR f dr gd g (.isnil ne x) K):Sound P ⟨dst,.binOp op t yx yy t',ty,pos,after,gu⟩ ev hpR f gd g K:=by
 have hny: ∀a:Act,a.eval yy= .slice none 0 0:=fun a=>by
  cases yy with
  | const v=>
   simp only [cvX,Option.map_eq_some_iff] at hy
   obtain ⟨d,h1,h2⟩:=hy
   cases h2
   unfold cvD at h1
   split at h1
   ·rfl
   ·split at h1 <;>cases h1
  | _=>simp [cvX] at hy
 simp only [opE] at hk
 obtain ⟨o1,d1,hk1,h1⟩:=evG_spec hk
 have run: ∀ {w:World} {a:Act} {b:Addr} {n c:Nat},a.eval yx= .slice (some b) n c->(execOp a.eval ⟨dst,.binOp op t yx yy t',ty,pos,after,gu⟩).run P w= .ok (.value (.bool ne)) w:=fun {w a b n c} e=>by
  rcases hop with ⟨rfl,rfl⟩ | ⟨rfl,rfl⟩
  ·exact exec_v (w':=w) (by simp [e,hny a,eqGuard,binOp,run_nil_eq P w (some b) n c ht,Result.andThen])
  ·exact exec_v (w':=w) (by simp [e,hny a,eqGuard,binOp,run_nil_eq P w (some b) n c ht,Result.andThen])
 split at hk1
 ·rename_i i n k
  split at hk1
  case h_2=>exact hk1.elim
  rename_i kk ds hds
  refine Sound.pure hk1 fun p1 hg w G h a hi ht hr=>?_
  have hv:=h1 (fun d' e=>hr yx x d' hx e) hg p1
  have hb:h i= .vec true kk ds:=by rw [ht i (by simp),hds]
  obtain ⟨v,hev⟩: ∃v,v=a.eval yx:=⟨_,rfl⟩
  rw [<-hev] at hv
  cases hv with
  | vec hd hm hc hvo=>
   obtain ⟨_,_,_,q⟩:=hvo _ _ _ hb
   obtain ⟨rfl,_⟩:=q rfl
   exact ⟨_,run hev.symm,rv_mkbool _⟩
 ·refine Sound.pure (tc:= []) hk1 fun p1 hg w G h a hi _ hr=>?_
  have hv:=h1 (fun d' e=>hr yx x d' hx e) hg p1
  obtain ⟨v,hev⟩: ∃v,v=a.eval yx:=⟨_,rfl⟩
  rw [<-hev] at hv
  cases hv with
  | bs _ _ _ _=>exact ⟨_,run hev.symm,rv_mkbool _⟩
 ·refine Sound.pure (tc:= []) hk1 fun p1 hg w G h a hi _ hr=>?_
  have hv:=h1 (fun d' e=>hr yx x d' hx e) hg p1
  obtain ⟨v,hev⟩: ∃v,v=a.eval yx:=⟨_,rfl⟩
  rw [<-hev] at hv
  cases hv with
  | e hv=>cases hv with | sl u hn hc hm hk hp hr'=>exact ⟨_,run hev.symm,rv_mkbool _⟩
 ·refine Sound.pure (tc:= []) hk1 fun p1 hg w G h a hi _ hr=>?_
  have hv:=h1 (fun d' e=>hr yx x d' hx e) hg p1
  obtain ⟨v,hev⟩: ∃v,v=a.eval yx:=⟨_,rfl⟩
  rw [<-hev] at hv
  cases hv with
  | e0=>exact ⟨_,run hev.symm,rv_mkbool _⟩
 ·refine Sound.pure (tc:= []) hk1 fun p1 hg w G h a hi _ hr=>?_
  obtain ⟨e1,_⟩:=rv_v (h1 (fun d' e=>hr yx x d' hx e) hg p1)
  refine ⟨.bool (!ne),?_,rv_mkbool _⟩
  rcases hop with ⟨rfl,rfl⟩ | ⟨rfl,rfl⟩
  ·exact exec_v (w':=w) (by simp [e1,hny a,eqGuard,binOp,run_nil_eq P w none 0 0 ht,Result.andThen])
  ·exact exec_v (w':=w) (by simp [e1,hny a,eqGuard,binOp,run_nil_eq P w none 0 0 ht,Result.andThen])
 ·exact hk1.elim
theorem s_un {op:UnOp} {t:TypeId} {yx:Operand} {x:X} (hx:cvX yx=some x)
  (hk:opE P ev hpR f dr gd g (.un op x) K):Sound P ⟨dst,.unOp op t yx,ty,pos,after,gu⟩ ev hpR f gd g K:=by
 simp only [opE] at hk
 obtain ⟨o1,d1,hk1,h1⟩:=evG_spec hk
 split at hk1
 ·rename_i b
  refine Sound.pure (tc:= []) hk1 fun p1 hg w G h r hi _ hr=>?_
  obtain ⟨e1,_⟩:=rv_v (h1 (fun d' e=>hr yx x d' hx e) hg p1)
  exact ⟨.bool (!b),exec_v (w':=w) (by simp [e1,Op.unary]),rv_mkbool _⟩
 ·rename_i k n
  refine Sound.fx hk1 fun ⟨p1,p2⟩ hg w G h r hi hr=>?_
  obtain ⟨e1,_⟩:=rv_v (h1 (fun d' e=>hr yx x d' hx e) hg p1)
  obtain ⟨q1,q2⟩:=wrap_in p2
  exact ⟨.int k (-n),exec_v (w':=w) (by simp [e1,Op.unary,Op.intArith,q1]),rv_mkint q2⟩
 ·exact hk1.elim
theorem s_convi {s d:TypeId} {k:IntKind} {k':IntKind} {yx:Operand} {x:X} (hx:cvX yx=some x) (hs:P.underlying s=some (.int k')) (hd:P.underlying d=some (.int k))
  (hk:opE P ev hpR f dr gd g (.convi k x) K):Sound P ⟨dst,.convert s d yx,ty,pos,after,gu⟩ ev hpR f gd g K:=by
 simp only [opE] at hk
 obtain ⟨o1,d1,hk1,h1⟩:=evG_spec hk
 split at hk1
 ·rename_i kk n
  refine Sound.fx hk1 fun ⟨p1,p2⟩ hg w G h r hi hr=>?_
  obtain ⟨e1,_⟩:=rv_v (h1 (fun d' e=>hr yx x d' hx e) hg p1)
  obtain ⟨q1,q2⟩:=wrap_in p2
  exact ⟨.int k n,exec_v (w':=w) (by simp [convert,run_underlying hs,run_underlying hd,Result.andThen,e1,Conv.intToInt,q1]),rv_mkint q2⟩
 ·exact hk1.elim
theorem s_convss {s d:TypeId} {yx:Operand} {x:X} (hx:cvX yx=some x) (hs:P.underlying s=some .string) (hd:P.underlying d=some .string)
  (hk:opE P ev hpR f dr gd g (.convss x) K):Sound P ⟨dst,.convert s d yx,ty,pos,after,gu⟩ ev hpR f gd g K:=by
 simp only [opE] at hk
 obtain ⟨o1,d1,hk1,h1⟩:=evG_spec hk
 split at hk1
 ·rename_i s'
  refine Sound.pure (tc:= []) hk1 fun p1 hg w G h r hi _ hr=>?_
  obtain ⟨e1,e2⟩:=rv_v (h1 (fun d' e=>hr yx x d' hx e) hg p1)
  exact ⟨.string s',exec_v (w':=w) (by simp [convert,run_underlying hs,run_underlying hd,Result.andThen,e1]),.e (.v e2)⟩
 ·exact hk1.elim
theorem s_ext {t:TypeId} {i:Nat} {yx:Operand} {x:X} (hx:cvX yx=some x)
  (hk:opE P ev hpR f dr gd g (.ext i x) K):Sound P ⟨dst,.extract yx i,ty,pos,after,gu⟩ ev hpR f gd g K:=by
 simp only [opE] at hk
 obtain ⟨o1,d1,hk1,h1⟩:=evG_spec hk
 split at hk1
 ·rename_i ds
  refine Sound.fx hk1 fun ⟨p1,p2⟩ hg w G h r hi hr=>?_
  obtain ⟨cs,e1,hl,h2⟩:=rv_tup (h1 (fun d' e=>hr yx x d' hx e) hg p1)
  have hc:cs[i]?=some cs[i]:=by simp [show i<cs.size by omega]
  refine ⟨cs[i],exec_v (w':=w) (by simp [e1,Instr.extract,hc]),h2 i _ _ hc (by simp [p2,List.getD])⟩
 ·exact hk1.elim
theorem s_mn {yx yy:Operand} {x y:X} {ts:Array TypeId} (hx:cvX yx=some x) (hy:cvX yy=some y)
  (hk:opE P ev hpR f dr gd g (.mn x y) K):Sound P ⟨dst,.call {callee:= .builtin .min,args:= #[yx,yy],argTypes:=ts},ty,pos,after,gu⟩ ev hpR f gd g K:=by
 simp only [opE] at hk
 obtain ⟨o1,d1,hk1,h1⟩:=evG_spec hk
 obtain ⟨o2,d2,hk2,h2⟩:=evG_spec hk1
 split at hk2
 ·rename_i k a k' b
  refine Sound.fx hk2 fun ⟨p1,p2,p3⟩ hg w G h r hi hr=>?_
  subst p3
  obtain ⟨e1,q1,q2⟩:=rv_int (h1 (fun d' e=>hr yx x d' hx e) hg p1)
  obtain ⟨e2,q3,q4⟩:=rv_int (h2 (fun d' e=>hr yy y d' hy e) hg p2)
  exact ⟨.int k (min a b),by simp [execOp,resolve,invoke,builtin,e1,e2,Builtin.min_,Builtin.min2];split <;>omega,rv_mkint (by omega)⟩
 ·exact hk2.elim
theorem s_mx {yx yy:Operand} {x y:X} {ts:Array TypeId} (hx:cvX yx=some x) (hy:cvX yy=some y)
  (hk:opE P ev hpR f dr gd g (.mx x y) K):Sound P ⟨dst,.call {callee:= .builtin .max,args:= #[yx,yy],argTypes:=ts},ty,pos,after,gu⟩ ev hpR f gd g K:=by
 simp only [opE] at hk
 obtain ⟨o1,d1,hk1,h1⟩:=evG_spec hk
 obtain ⟨o2,d2,hk2,h2⟩:=evG_spec hk1
 split at hk2
 ·rename_i k a k' b
  refine Sound.fx hk2 fun ⟨p1,p2,p3⟩ hg w G h r hi hr=>?_
  subst p3
  obtain ⟨e1,q1,q2⟩:=rv_int (h1 (fun d' e=>hr yx x d' hx e) hg p1)
  obtain ⟨e2,q3,q4⟩:=rv_int (h2 (fun d' e=>hr yy y d' hy e) hg p2)
  exact ⟨.int k (max a b),by simp [execOp,resolve,invoke,builtin,e1,e2,Builtin.max_,Builtin.max2];split <;>omega,rv_mkint (by omega)⟩
 ·exact hk2.elim
theorem xs_get {ys:List Operand} : ∀ {xs:List X},xs? ys=some xs->xs.length=ys.length/\ ∀(j:Nat) y,ys[j]?=some y-> ∃x,xs[j]?=some x/\cvX y=some x:=by
 induction ys with
 | nil=>intro xs h;simp [xs?] at h;subst h;simp
 | cons y r ih=>
  intro xs h
  simp only [xs?,Option.bind_eq_some_iff,Option.map_eq_some_iff] at h
  obtain ⟨x,hx,xs',hxs,rfl⟩:=h
  obtain ⟨hl,hg⟩:=ih hxs
  refine ⟨by simp [hl],fun j y' hj=>?_⟩
  cases j with
  | zero=>simp at hj;subst hj;exact ⟨x,by simp,hx⟩
  | succ j=>simpa using hg j y' (by simpa using hj)
theorem rel_list {ys:Array Operand} {xs:List X} {o:Prop} {ds:List D} (hx:xs? ys.toList=some xs) (hl:ds.length=(xs.map ev).length)
  (h1: ∀ {w G h},g=true->o-> ∀(j:Nat) v d,(∀d',(xs.map ev)[j]?=some (some d')->Rv w G h v d')->ds[j]?=some d->Rv w G h v d)
  {w G h} {a:Act} (hr:Rel ev w G h a) (hg:g=true) (ho:o):
  (ys.map a.eval).size=ds.length/\ ∀(j:Nat) v d,(ys.map a.eval)[j]?=some v->ds[j]?=some d->Rv w G h v d:=by
 obtain ⟨hl',hg'⟩:=xs_get hx
 refine ⟨by simp at hl hl' ⊢;omega,fun j v d hv hd=>?_⟩
 simp only [Array.getElem?_map,Option.map_eq_some_iff] at hv
 obtain ⟨y,hy,rfl⟩:=hv
 obtain ⟨x,hx1,hx2⟩:=hg' j y (by simpa using hy)
 exact h1 hg ho j _ d (fun d' e=>hr y x d' hx2 (by simpa [hx1] using e)) hd
theorem s_mkf {fn:Fn} {ya yc:Array Operand} {a c:List X} (ha:xs? ya.toList=some a) (hc:xs? yc.toList=some c)
  (hk:opE P ev hpR f dr gd g (.mkf fn a c) K):Sound P ⟨dst,.makeFunc fn ya yc,ty,pos,after,gu⟩ ev hpR f gd g K:=by
 simp only [opE] at hk
 obtain ⟨o1,d1,hk1,hl1,h1⟩:=evGs_spec hk
 obtain ⟨o2,d2,hk2,hl2,h2⟩:=evGs_spec hk1
 refine Sound.pure (tc:= []) hk2 fun ⟨p1,p2⟩ hg w G h r hi _ hr=>?_
 obtain ⟨q1,q2⟩:=rel_list ha hl1 h1 hr hg p1
 obtain ⟨q3,q4⟩:=rel_list hc hl2 h2 hr hg p2
 exact ⟨_,exec_v (w':=w) (by simp [Instr.makeFunc]),.fn q1 q2 q3 q4⟩
theorem str_bound {s:ByteArray} (h:okV (.string s)=true):s.data.toList.length<=maxN:=by
 have:s.size<=maxN:=of_decide_eq_true h
 exact this
theorem s_lens {t:TypeId} {yx:Operand} {x:X} (hx:cvX yx=some x) (ht:P.underlying t=some .string) (hf:dr=false-> ∃w G h a,Rel ev w G h a)
  (hk:opE P ev hpR f dr gd g (.lens x) K):Sound P ⟨dst,.call {callee:= .builtin .len,args:= #[yx],argTypes:= #[t]},ty,pos,after,gu⟩ ev hpR f gd g K:=by
 simp only [opE] at hk
 obtain ⟨o1,d1,hk1,h1⟩:=evG_spec hk
 split at hk1
 ·rename_i s
  refine Sound.pure (tc:= []) (hk1 fun hd hg ho=>?_) fun p1 hg w G h r hi _ hr=>?_
  ·obtain ⟨w,G,h,a,hr⟩:=hf hd
   obtain ⟨e1,e2⟩:=rv_v (h1 (fun d' e=>hr yx x d' hx e) hg ho)
   exact str_bound e2
  ·obtain ⟨e1,e2⟩:=rv_v (h1 (fun d' e=>hr yx x d' hx e) hg p1)
   have hm:=str_bound e2
   refine ⟨.int .i64 s.data.toList.length,?_,rv_mkint ?_⟩
   ·have e3:s.data.toList.length=s.size:=rfl
    rw [e3]
    simp [execOp,resolve,invoke,builtin,e1,Builtin.len_,run_underlying ht,Result.andThen,goInt]
   ·generalize s.data.toList.length=n at hm
    simp only [maxN] at hm;simp only [IntKind.min,IntKind.max,IntKind.signed,IntKind.bits];simp;omega
 ·exact hk1.elim
def VecOK (w:World) (G:Gh) (h:Hp) (i n k:Nat) (a:Option Addr) (cap:Nat):Prop:=
 ∀b k' ds,h i= .vec b k' ds->k'=k/\n * k<=ds.length/\(b=false->n=0/\cap=0/\ ∀x,a=some x->x.spot=none)/\
   (b=true->a=some ⟨G.blk i,0,none⟩/\ ∃cs T fr,w.heap[G.blk i]?=some (.cells cs T fr)/\cap * k<=cs.size)
theorem rv_vec {w G h x} {i n k:Nat} (r:Rv w G h x (.vec i n k)): ∃a cap,x= .slice a n cap/\h i≠ .dead/\n<=maxN/\n<=cap/\VecOK w G h i n k a cap:=by
 cases r with | vec hd hm hc hv=>exact ⟨_,_,rfl,hd,hm,hc,hv⟩
theorem rv_vref {w G h x} {i off:Nat} (r:Rv w G h x (.vref i off)): ∃b,x= .pointer (some ⟨b,off,none⟩)/\h i≠ .dead/\ ∀f k ds,h i= .vec f k ds->f=true/\b=G.blk i:=by
 cases r with | vref hd hv=>exact ⟨_,rfl,hd,hv⟩
theorem vec_cells {w:World} {G:Gh} {h:Hp} (hi:Inv w G h) {i k:Nat} {ds:List D} (e:h i= .vec true k ds): ∃u:Nat->Value,
  (∀j,j<ds.length->w.cell? ⟨G.blk i,j,none⟩=some (u j))/\ ∀(j:Nat) d,ds[j]?=some d->Rv w G h (u j) d/\(u j).oneCell'=true:=by
 obtain ⟨_,cs,T,hc,hl,hr⟩:=(hi.vec i true k ds e).2 rfl
 refine ⟨fun j=>cs.getD j undef,fun j hj=>?_,fun j d hd=>?_⟩
 ·simp [World.cell?,hc,show j<cs.size by omega]
 ·have hj:j<cs.size:=Nat.lt_of_lt_of_le (List.getElem?_eq_some_iff.1 hd).1 hl
  have:=hr j cs[j] d (by simp [hj]) hd
  simpa [hj] using this
theorem s_lenl {t e:TypeId} {yx:Operand} {x:X} (hx:cvX yx=some x) (ht:P.underlying t=some (.slice e)) (hf:dr=false-> ∃w G h a,Rel ev w G h a)
  (hk:opE P ev hpR f dr gd g (.lenl x) K):Sound P ⟨dst,.call {callee:= .builtin .len,args:= #[yx],argTypes:= #[t]},ty,pos,after,gu⟩ ev hpR f gd g K:=by
 have big: ∀n:Nat,n<=maxN->IntKind.i64.min<=(n:Int)/\(n:Int)<=IntKind.i64.max:=fun n hn=>by
  simp only [maxN] at hn;simp only [IntKind.min,IntKind.max,IntKind.signed,IntKind.bits];simp;omega
 simp only [opE] at hk
 obtain ⟨o1,d1,hk1,h1⟩:=evG_spec hk
 split at hk1
 ·rename_i i off n k
  have key: ∀w G h (a:Act),Rel ev w G h a->g=true->o1-> ∃b c,a.eval yx= .slice b n c/\n<=maxN:=fun w G h a hr hg ho=>by
   have:=h1 (fun d' e=>hr yx x d' hx e) hg ho
   generalize a.eval yx=z at this
   cases this with | bs hb hc hl hm=>exact ⟨_,_,rfl,hm⟩
  refine Sound.pure (tc:= []) (hk1 fun hd hg ho=>?_) fun p1 hg w G h r hi _ hr=>?_
  ·obtain ⟨w,G,h,a,hr⟩:=hf hd
   obtain ⟨_,_,_,e⟩:=key w G h a hr hg ho
   exact e
  ·obtain ⟨b,c,e1,e2⟩:=key w G h r hr hg p1
   exact ⟨.int .i64 n,by simp [execOp,resolve,invoke,builtin,e1,Builtin.len_,run_underlying ht,Result.andThen,goInt],rv_mkint (big n e2)⟩
 ·rename_i i n k
  have key: ∀w G h (a:Act),Rel ev w G h a->g=true->o1-> ∃b c,a.eval yx= .slice b n c/\n<=maxN:=fun w G h a hr hg ho=>by
   obtain ⟨a,cap,e,_,hm,_⟩:=rv_vec (h1 (fun d' e=>hr yx x d' hx e) hg ho)
   exact ⟨_,_,e,hm⟩
  refine Sound.pure (tc:= []) (hk1 fun hd hg ho=>?_) fun p1 hg w G h r hi _ hr=>?_
  ·obtain ⟨w,G,h,a,hr⟩:=hf hd
   obtain ⟨_,_,_,e⟩:=key w G h a hr hg ho
   exact e
  ·obtain ⟨b,c,e1,e2⟩:=key w G h r hr hg p1
   exact ⟨.int .i64 n,by simp [execOp,resolve,invoke,builtin,e1,Builtin.len_,run_underlying ht,Result.andThen,goInt],rv_mkint (big n e2)⟩
 ·split at hk1
  ·rename_i es hes
   have key: ∀w G h (a:Act),Rel ev w G h a->g=true->o1-> ∃b c,a.eval yx= .slice b es.length c/\es.length<=maxN:=fun w G h a hr hg ho=>by
    rcases rv_list (h1 (fun d' e=>hr yx x d' hx e) hg ho) hes with ⟨b,e1,e2,_⟩ | r
    ·exact ⟨b,0,by rw [e1,e2];rfl,by rw [e2];exact Nat.zero_le _⟩
    ·rcases rve_sl r with ⟨a0,c0,e1,e2,_⟩ | ⟨b,off,cap,k,u,e1,_,e2,_⟩
     ·exact ⟨a0,c0,by rw [e1,e2];rfl,by rw [e2];exact Nat.zero_le _⟩
     ·exact ⟨_,_,e1,e2⟩
   refine Sound.pure (tc:= []) (hk1 fun hd hg ho=>?_) fun p1 hg w G h r hi _ hr=>?_
   ·obtain ⟨w,G,h,a,hr⟩:=hf hd
    obtain ⟨_,_,_,e⟩:=key w G h a hr hg ho
    exact e
   ·obtain ⟨b,c,e1,e2⟩:=key w G h r hr hg p1
    exact ⟨.int .i64 es.length,by simp [execOp,resolve,invoke,builtin,e1,Builtin.len_,run_underlying ht,Result.andThen,goInt],rv_mkint (big _ e2)⟩
  ·exact hk1.elim
theorem rv_rp {w G h x} {ds:List E} (r:Rv w G h x (.rp ds)): ∃(b off:Nat) (u:Nat->Value),x= .pointer (some ⟨b,off,none⟩)/\
  (∀j,j<ds.length->G.pub b (off+j)/\w.cell? ⟨b,off+j,none⟩=some (u j))/\ ∀(j:Nat) d,ds[j]?=some d->RvE w G (u j) d:=by
 cases r with | rp u hp hr=>exact ⟨_,_,u,rfl,hp,hr⟩
theorem rv_ref {w G h x} {i off:Nat} (r:Rv w G h x (.ref i off)):x= .pointer (some ⟨G.blk i,off,none⟩)/\ ∃ds,h i= .box ds:=by
 cases r with | ref hb=>exact ⟨rfl,_,hb⟩
theorem rv_refs {w G h x} {i off:Nat} (r:Rv w G h x (.refs i off)):x= .pointer (some ⟨G.blk i,off,none⟩)/\ ∃ds,h i= .box ds:=by
 cases r with | refs hb=>exact ⟨rfl,_,hb⟩
theorem nr_spec {X:Option D} {g:Bool} {o:Prop} {d:D} (h: ∀ {w G h v},(∀d',X=some d'->Rv w G h v d')->g=true->o->Rv w G h v d):
  ∀ {w G h v},(∀d',X=some d'->Rv w G h v d')->g=true->o->Rv w G h v d.nr:=fun a b c=>(h a b c).nr
theorem rp_drop {w:World} {G:Gh} {h:Hp} {b off:Nat} {u:Nat->Value} {ds:List E} (hp: ∀j,j<ds.length->G.pub b (off+j)/\w.cell? ⟨b,off+j,none⟩=some (u j))
  (hr: ∀(j:Nat) d,ds[j]?=some d->RvE w G (u j) d) (k:Nat):Rv w G h (.pointer (some ⟨b,off+k,none⟩)) (.rp (ds.drop k)):=
 .rp (fun j=>u (k+j)) (fun j hj=>by rw [List.length_drop] at hj;rw [Nat.add_assoc];exact hp (k+j) (by omega)) (fun j d hd=>hr (k+j) d (by simpa using hd))
theorem s_nilc {yx:Operand} {x:X} (hx:cvX yx=some x)
  (hk:opE P ev hpR f dr gd g (.nilc x) K):Sound P ⟨dst,.nilCheck yx,ty,pos,after,gu⟩ ev hpR f gd g K:=by
 simp only [opE] at hk
 obtain ⟨o1,d1,hk1,h1⟩:=evG_spec hk
 split at hk1
 ·refine Sound.pure (tc:= []) hk1 fun p1 hg w G h r hi _ hr=>?_
  have h2:=h1 (fun d' e=>hr yx x d' hx e) hg p1
  obtain ⟨b,off,u,e1,_⟩:=rv_rp h2
  exact ⟨r.eval yx,by simp [execOp,e1],h2⟩
 ·refine Sound.pure (tc:= []) hk1 fun p1 hg w G h r hi _ hr=>?_
  have h2:=h1 (fun d' e=>hr yx x d' hx e) hg p1
  obtain ⟨e1,_⟩:=rv_ref h2
  exact ⟨r.eval yx,by simp [execOp,e1],h2⟩
 ·refine Sound.pure (tc:= []) hk1 fun p1 hg w G h r hi _ hr=>?_
  have h2:=h1 (fun d' e=>hr yx x d' hx e) hg p1
  obtain ⟨e1,_⟩:=rv_refs h2
  exact ⟨r.eval yx,by simp [execOp,e1],h2⟩
 ·refine Sound.pure (tc:= []) hk1 fun p1 hg w G h r hi _ hr=>?_
  have h2:=h1 (fun d' e=>hr yx x d' hx e) hg p1
  obtain ⟨b,e1,_⟩:=rv_vref h2
  exact ⟨r.eval yx,by simp [execOp,e1],h2⟩
 ·exact hk1.elim
theorem s_fadr {t:TypeId} {fs:Array Field} {fi:Nat} {fd:Field} {yx:Operand} {x:X} (hx:cvX yx=some x) (ht:P.underlying t=some (.struct fs)) (hfd:fs[fi]?=some fd)
  (hz:P.cellsOf fd.type≠0) (hk:opE P ev hpR f dr gd g (.fadr fd.offset x) K):Sound P ⟨dst,.fieldAddr t yx fi,ty,pos,after,gu⟩ ev hpR f gd g K:=by
 simp only [opE] at hk
 obtain ⟨o1,d1,hk1,h1⟩:=evG_spec hk
 have run: ∀w b off,(Instr.fieldAt t (.pointer (some ⟨b,off,none⟩)) fi).run P w= .ok (.pointer (some ⟨b,off+fd.offset,none⟩)) w:=fun w b off=>by
  simp [Instr.fieldAt,run_underlying ht,Result.andThen,hfd,Instr.sureAddr,fieldPlace,run_size hz,hz,addr_add]
 split at hk1
 ·refine Sound.pure (tc:= []) hk1 fun p1 hg w G h r hi _ hr=>?_
  obtain ⟨b,off,u,e1,h3,h4⟩:=rv_rp (h1 (fun d' e=>hr yx x d' hx e) hg p1)
  exact ⟨_,exec_v (w':=w) (by rw [e1];exact run w b off),rp_drop h3 h4 _⟩
 ·refine Sound.pure (tc:= []) hk1 fun p1 hg w G h r hi _ hr=>?_
  obtain ⟨e1,ds,e2⟩:=rv_ref (h1 (fun d' e=>hr yx x d' hx e) hg p1)
  exact ⟨_,exec_v (w':=w) (by rw [e1];exact run w _ _),.ref e2⟩
 ·refine Sound.pure (tc:= []) hk1 fun p1 hg w G h r hi _ hr=>?_
  obtain ⟨e1,ds,e2⟩:=rv_refs (h1 (fun d' e=>hr yx x d' hx e) hg p1)
  exact ⟨_,exec_v (w':=w) (by rw [e1];exact run w _ _),.refs e2⟩
 ·refine Sound.pure (tc:= []) hk1 fun p1 hg w G h r hi _ hr=>?_
  obtain ⟨b,e1,e2,e3⟩:=rv_vref (h1 (fun d' e=>hr yx x d' hx e) hg p1)
  exact ⟨_,exec_v (w':=w) (by rw [e1];exact run w _ _),.vref e2 e3⟩
 ·exact hk1.elim
theorem idx_list {w:World} {G:Gh} {h:Hp} {b off k:Nat} {u:Nat->Value} {es:List (List E)} (hkk: ∀e∈es,e.length=k)
  (hp: ∀j,j<es.length * k->G.pub b (off+j)/\w.cell? ⟨b,off+j,none⟩=some (u j)) (hr: ∀(j:Nat) d,es.flatten[j]?=some d->RvE w G (u j) d)
  {i:Nat} (hi:i<es.length):Rv w G h (.pointer (some ⟨b,off+i * k,none⟩)) (.rp (es.getD i [])):=by
 have he:es[i]?=some (es.getD i []):=by simp [List.getD,hi]
 have hl:(es.getD i []).length=k:=hkk _ (List.mem_of_getElem? he)
 have hb:i * k+k<=es.length * k:=by rw [<-Nat.succ_mul];exact Nat.mul_le_mul_right k hi
 refine .rp (fun j=>u (i * k+j)) (fun j hj=>?_) (fun j d hd=>?_)
 ·rw [Nat.add_assoc];exact hp (i * k+j) (by omega)
 ·have hj:j<k:=by rw [<-hl];exact (List.getElem?_eq_some_iff.1 hd).1
  exact hr _ d (by rw [flatten_get hkk i _ j he hj];exact hd)
theorem s_iadr_sl {t e:TypeId} {k:Nat} {yx yi:Operand} {x i:X} (hx:cvX yx=some x) (hy:cvX yi=some i) (ht:P.underlying t=some (.slice e)) (hke:P.cellsOf e=k)
  (hz:P.cellsOf e≠0) (hk:opE P ev hpR f dr gd g (.iadr none k x i) K):Sound P ⟨dst,.indexAddr t yx yi,ty,pos,after,gu⟩ ev hpR f gd g K:=by
 simp only [opE] at hk
 obtain ⟨o1,d1,hk1,h1⟩:=evG_spec hk
 obtain ⟨o2,d2,hk2,h2⟩:=evG_spec hk1
 have run: ∀(w:World) (b off cap len:Nat) (kd:IntKind) (n:Int),0<=n->n<(len:Int)->(Instr.indexAt t (.slice (some ⟨b,off,none⟩) len cap) (.int kd n)).run P w= .ok (.pointer (some ⟨b,off+n.toNat * k,none⟩)) w:=
  fun w b off cap len kd n h0 h1=>by
   subst hke
   simp [Instr.indexAt,asIntOf,run_underlying ht,Result.andThen,h0,h1,run_size hz,addr_add]
 split at hk2
 case h_2=>exact hk2.elim
 rename_i kd n
 split at hk2
 ·rename_i j off m k'
  refine Sound.fx hk2 fun ⟨p1,p2,p3,p4,p5⟩ hg w G h r hi hr=>?_
  obtain ⟨e2,_⟩:=rv_int (h2 (fun d' e=>hr yi i d' hy e) hg p2)
  have h3:=h1 (fun d' e=>hr yx x d' hx e) hg p1
  generalize hz1:r.eval yx=z at h3
  cases h3 with
  | bs hb hc hl hm=>
   obtain ⟨rfl,rfl,_⟩:=hl.resolve_left (by omega)
   exact ⟨_,exec_v (w':=w) (by rw [hz1,e2];exact run w _ _ _ _ _ n p3 p4),.refs hb⟩
 ·rename_i j m k'
  split at hk2
  case h_2=>exact hk2.elim
  rename_i fl k2 ds hds
  refine Sound.pure (tc:= [j]) hk2 fun p0 hg w G h r hi ht0 hr=>?_
  obtain ⟨p1,p2,p3,p4,rfl⟩:=gImp_iff.1 p0 hg
  obtain ⟨e2,_⟩:=rv_int (h2 (fun d' e=>hr yi i d' hy e) hg p2)
  obtain ⟨a,cap,e1,hd,_,_,hv⟩:=rv_vec (h1 (fun d' e=>hr yx x d' hx e) hg p1)
  obtain ⟨_,q2,q3,q4⟩:=hv fl k2 ds (by rw [ht0 j (by simp),hds])
  have hfl:fl=true:=by
   cases fl with
   | true=>rfl
   | false=>have:=(q3 rfl).1;omega
  subst hfl
  obtain ⟨q5,_⟩:=q4 rfl
  refine ⟨_,exec_v (w':=w) (by rw [e1,e2,q5];exact run w _ _ _ _ _ n p3 p4),.vref hd fun f k3 ds3 e3=>?_⟩
  rw [ht0 j (by simp),hds] at e3
  cases e3
  exact ⟨rfl,rfl⟩
 ·split at hk2
  ·rename_i es hes
   refine Sound.fx hk2 fun ⟨p1,p2,⟨p3,p4⟩,p5⟩ hg w G h r hi hr=>?_
   obtain ⟨e2,_⟩:=rv_int (h2 (fun d' e=>hr yi i d' hy e) hg p2)
   rcases rv_list (h1 (fun d' e=>hr yx x d' hx e) hg p1) hes with ⟨b,e1,e3,_⟩ | r'
   ·rw [e3] at p4;simp at p4;omega
   ·rcases rve_sl r' with ⟨_,_,e1,e3,_⟩ | ⟨b,off,cap,k',u,e1,_,_,hkk,hp,hrr⟩
    ·rw [e3] at p4;simp at p4;omega
    ·have hn:n.toNat<es.length:=by omega
     have:k'=k:=by
      rw [<-p5];exact (hkk _ (List.mem_of_getElem? (by simp [List.getD,hn]:es[n.toNat]?=some (es.getD n.toNat [])))).symm
     subst this
     exact ⟨_,exec_v (w':=w) (by rw [e1,e2];exact run w _ _ _ _ _ n p3 p4),idx_list hkk hp hrr hn⟩
  ·exact hk2.elim
theorem s_iadr_arr {t e:TypeId} {k m:Nat} {yx yi:Operand} {x i:X} (hx:cvX yx=some x) (hy:cvX yi=some i) (ht:P.underlying t=some (.array m e)) (hke:P.cellsOf e=k)
  (hz:P.cellsOf e≠0) (hk:opE P ev hpR f dr gd g (.iadr (some m) k x i) K):Sound P ⟨dst,.indexAddr t yx yi,ty,pos,after,gu⟩ ev hpR f gd g K:=by
 simp only [opE] at hk
 obtain ⟨o1,d1,hk1,h1⟩:=evG_spec hk
 obtain ⟨o2,d2,hk2,h2⟩:=evG_spec hk1
 have run: ∀(w:World) (b off:Nat) (kd:IntKind) (n:Int),0<=n->n<(m:Int)->(Instr.indexAt t (.pointer (some ⟨b,off,none⟩)) (.int kd n)).run P w= .ok (.pointer (some ⟨b,off+n.toNat * k,none⟩)) w:=
  fun w b off kd n h0 h1=>by
   subst hke
   simp [Instr.indexAt,asIntOf,run_underlying ht,Result.andThen,h0,h1,run_size hz,addr_add,Instr.sureAddr]
 split at hk2
 case h_2=>exact hk2.elim
 rename_i kd n
 split at hk2
 ·refine Sound.fx hk2 fun ⟨p1,p2,p3,p4⟩ hg w G h r hi hr=>?_
  obtain ⟨e2,_⟩:=rv_int (h2 (fun d' e=>hr yi i d' hy e) hg p2)
  obtain ⟨e1,ds,e3⟩:=rv_ref (h1 (fun d' e=>hr yx x d' hx e) hg p1)
  exact ⟨_,exec_v (w':=w) (by rw [e1,e2];exact run w _ _ _ n p3 p4),.ref e3⟩
 ·refine Sound.fx hk2 fun ⟨p1,p2,p3,p4⟩ hg w G h r hi hr=>?_
  obtain ⟨e2,_⟩:=rv_int (h2 (fun d' e=>hr yi i d' hy e) hg p2)
  obtain ⟨e1,ds,e3⟩:=rv_refs (h1 (fun d' e=>hr yx x d' hx e) hg p1)
  exact ⟨_,exec_v (w':=w) (by rw [e1,e2];exact run w _ _ _ n p3 p4),.refs e3⟩
 ·refine Sound.fx hk2 fun ⟨p1,p2,p3,p4⟩ hg w G h r hi hr=>?_
  obtain ⟨e2,_⟩:=rv_int (h2 (fun d' e=>hr yi i d' hy e) hg p2)
  obtain ⟨b,off,u,e1,h3,h4⟩:=rv_rp (h1 (fun d' e=>hr yx x d' hx e) hg p1)
  exact ⟨_,exec_v (w':=w) (by rw [e1,e2];exact run w _ _ _ n p3 p4),rp_drop h3 h4 _⟩
 ·exact hk2.elim
theorem run_loadVar_agg {w:World} {t:TypeId} {b off:Nat} {n:Nat} {u:Nat->Value} (ha:isAggB P t=true) (hn:P.cellsOf t=n) (h0: ∃d,P.underlying t=some d)
  (hc: ∀j,j<n->w.cell? ⟨b,off+j,none⟩=some (u j)):(loadVar t ⟨b,off,none⟩).run P w= .ok (.agg ((List.range n).map u).toArray) w:=by
 obtain ⟨d,hd⟩:=h0
 obtain ⟨i,hi⟩:=info_of_under hd
 have h1:=run_loadCells (P:=P) w ⟨b,off,none⟩ n u (fun j hj=>by rw [addr_add];exact hc j hj)
 have h2:(sizeOf t).run P w= .ok n w:=by rw [run_sizeOf w hi,hn]
 simp only [loadVar,Sem.run_bind,run_isAgg' hd,Result.andThen,ha,if_true,h2,h1,Sem.run_pure]
theorem run_loadVar_one {w:World} {t:TypeId} {b off:Nat} {u:Value} (ha:isAggB P t=false) (h0: ∃d,P.underlying t=some d)
  (hc:w.cell? ⟨b,off,none⟩=some u):(loadVar t ⟨b,off,none⟩).run P w= .ok u w:=by
 obtain ⟨d,hd⟩:=h0
 simp [loadVar,run_isAgg' hd,Result.andThen,ha,hc]
theorem rv_range {w:World} {G:Gh} {h:Hp} {n:Nat} {u:Nat->Value} {ds:List D} (hl:ds.length=n) (h1: ∀(j:Nat) d,ds[j]?=some d->Rv w G h (u j) d/\(u j).oneCell'=true):
  Rv w G h (.agg ((List.range n).map u).toArray) (.agg ds):=by
 refine .agg (by simp [hl]) (fun j c hc=>?_) (fun j c d hc hd=>?_)
 ·simp only [List.getElem?_toArray,List.getElem?_map,Option.map_eq_some_iff] at hc
  obtain ⟨j',hj,rfl⟩:=hc
  obtain ⟨hj1,rfl⟩:=List.getElem?_eq_some_iff.1 hj
  simp at hj1 ⊢
  exact (h1 j ds[j] (by simp [hl,hj1])).2
 ·simp only [List.getElem?_toArray,List.getElem?_map,Option.map_eq_some_iff] at hc
  obtain ⟨j',hj,rfl⟩:=hc
  obtain ⟨hj1,rfl⟩:=List.getElem?_eq_some_iff.1 hj
  simp at hj1 ⊢
  exact (h1 j d hd).1
theorem box_cells {w:World} {G:Gh} {h:Hp} (hi:Inv w G h) {i:Nat} {ds:List D} (e:h i= .box ds): ∃u:Nat->Value,
  (∀j,j<ds.length->w.cell? ⟨G.blk i,j,none⟩=some (u j))/\ ∀(j:Nat) d,ds[j]?=some d->Rv w G h (u j) d/\(u j).oneCell'=true:=by
 obtain ⟨_,cs,T,hc,hl,hr⟩:=hi.box i ds e
 refine ⟨fun j=>cs.getD j undef,fun j hj=>?_,fun j d hd=>?_⟩
 ·simp [World.cell?,hc,show j<cs.size by omega]
 ·have hj:j<cs.size:=by rw [hl];exact (List.getElem?_eq_some_iff.1 hd).1
  have:=hr j cs[j] d (by simp [hj]) hd
  simpa [hj] using this
theorem s_load {t:TypeId} {yx:Operand} {x:X} {ag:Bool} {n:Nat} (hx:cvX yx=some x) (h0: ∃d,P.underlying t=some d) (ha:isAggB P t=ag) (hn:ag=true->P.cellsOf t=n)
  (hk:opE P ev hpR f dr gd g (.load ag n x) K):Sound P ⟨dst,.load t yx,ty,pos,after,gu⟩ ev hpR f gd g K:=by
 simp only [opE] at hk
 obtain ⟨o1,d0,hk1,h00⟩:=evG_spec hk
 have h1:= @nr_spec _ _ _ _ @h00
 generalize d0.nr=d1 at hk1 h1
 split at hk1
 ·rename_i ds
  cases ag with
  | true=>
   simp only [if_true] at hk1
   refine Sound.fx hk1 fun ⟨p1,p2⟩ hg w G h r hi hr=>?_
   obtain ⟨b,off,u,e1,h3,h4⟩:=rv_rp (h1 (fun d' e=>hr yx x d' hx e) hg p1)
   refine ⟨_,exec_v (w':=w) (by rw [e1];simp only [Instr.loadAt,Instr.sureAddr,Sem.run_bind,Sem.run_pure,Result.andThen];exact run_loadVar_agg ha (hn rfl) h0 (fun j hj=>(h3 j (by omega)).2)),?_⟩
   refine rv_range (by simp [p2]) fun j d hd=>?_
   simp only [List.getElem?_map,Option.map_eq_some_iff] at hd
   obtain ⟨d',hd,rfl⟩:=hd
   have:=h4 j d' (by rw [List.getElem?_take] at hd;split at hd <;>simp_all)
   exact ⟨.e this,this.cell⟩
  | false=>
   simp only [Bool.false_eq_true,if_false] at hk1
   refine Sound.fx hk1 fun ⟨p1,p2⟩ hg w G h r hi hr=>?_
   obtain ⟨b,off,u,e1,h3,h4⟩:=rv_rp (h1 (fun d' e=>hr yx x d' hx e) hg p1)
   exact ⟨u 0,exec_v (w':=w) (by rw [e1];simp only [Instr.loadAt,Instr.sureAddr,Sem.run_bind,Sem.run_pure,Result.andThen];exact run_loadVar_one ha h0 (h3 0 (by omega)).2),
    .e (h4 0 _ (by simp [List.getD,show 0<ds.length by omega]))⟩
 ·rename_i i off
  split at hk1
  ·rename_i ds hds
   cases ag with
   | true=>
    simp only [if_true] at hk1
    refine Sound.pure (tc:= [i]) hk1 fun ⟨p1,p2⟩ hg w G h r hi ht hr=>?_
    obtain ⟨e1,_⟩:=rv_ref (h1 (fun d' e=>hr yx x d' hx e) hg p1)
    obtain ⟨u,hu1,hu2⟩:=box_cells hi (show h i= .box ds by rw [ht i (by simp),hds])
    refine ⟨_,exec_v (w':=w) (by rw [e1];simp only [Instr.loadAt,Instr.sureAddr,Sem.run_bind,Sem.run_pure,Result.andThen];exact run_loadVar_agg (u:=fun j=>u (off+j)) ha (hn rfl) h0 (fun j hj=>hu1 (off+j) (by omega))),?_⟩
    refine rv_range (by simp;omega) fun j d hd=>?_
    rw [List.getElem?_take] at hd
    split at hd
    ·exact hu2 (off+j) d (by simpa using hd)
    ·cases hd
   | false=>
    simp only [Bool.false_eq_true,if_false] at hk1
    refine Sound.pure (tc:= [i]) hk1 fun ⟨p1,p2⟩ hg w G h r hi ht hr=>?_
    obtain ⟨e1,_⟩:=rv_ref (h1 (fun d' e=>hr yx x d' hx e) hg p1)
    obtain ⟨u,hu1,hu2⟩:=box_cells hi (show h i= .box ds by rw [ht i (by simp),hds])
    exact ⟨u off,exec_v (w':=w) (by rw [e1];simp only [Instr.loadAt,Instr.sureAddr,Sem.run_bind,Sem.run_pure,Result.andThen];exact run_loadVar_one ha h0 (hu1 off p2)),
     (hu2 off _ (by simp [List.getD,p2])).1⟩
  ·exact hk1.elim
 ·rename_i i off
  split at hk1
  ·rename_i fl k0 ds hds
   cases ag with
   | true=>
    simp only [if_true] at hk1
    refine Sound.pure (tc:= [i]) hk1 fun ⟨p1,p2⟩ hg w G h r hi ht hr=>?_
    obtain ⟨b,e1,_,e3⟩:=rv_vref (h1 (fun d' e=>hr yx x d' hx e) hg p1)
    have hh:h i= .vec fl k0 ds:=by rw [ht i (by simp),hds]
    obtain ⟨rfl,rfl⟩:=e3 _ _ _ hh
    obtain ⟨u,hu1,hu2⟩:=vec_cells hi hh
    refine ⟨_,exec_v (w':=w) (by rw [e1];simp only [Instr.loadAt,Instr.sureAddr,Sem.run_bind,Sem.run_pure,Result.andThen];exact run_loadVar_agg (u:=fun j=>u (off+j)) ha (hn rfl) h0 (fun j hj=>hu1 (off+j) (by omega))),?_⟩
    refine rv_range (by simp;omega) fun j d hd=>?_
    rw [List.getElem?_take] at hd
    split at hd
    ·exact hu2 (off+j) d (by simpa using hd)
    ·cases hd
   | false=>
    simp only [Bool.false_eq_true,if_false] at hk1
    refine Sound.pure (tc:= [i]) hk1 fun ⟨p1,p2⟩ hg w G h r hi ht hr=>?_
    obtain ⟨b,e1,_,e3⟩:=rv_vref (h1 (fun d' e=>hr yx x d' hx e) hg p1)
    have hh:h i= .vec fl k0 ds:=by rw [ht i (by simp),hds]
    obtain ⟨rfl,rfl⟩:=e3 _ _ _ hh
    obtain ⟨u,hu1,hu2⟩:=vec_cells hi hh
    exact ⟨u off,exec_v (w':=w) (by rw [e1];simp only [Instr.loadAt,Instr.sureAddr,Sem.run_bind,Sem.run_pure,Result.andThen];exact run_loadVar_one ha h0 (hu1 off p2)),
     (hu2 off _ (by simp [List.getD,p2])).1⟩
  ·exact hk1.elim
 ·exact hk1.elim
theorem s_fld {t:TypeId} {fs:Array Field} {fi:Nat} {fd:Field} {ag:Bool} {n:Nat} {yx:Operand} {x:X} (hx:cvX yx=some x) (ht:P.underlying t=some (.struct fs)) (hfd:fs[fi]?=some fd)
  (h0: ∃d,P.underlying fd.type=some d) (ha:isAggB P fd.type=ag) (hn:ag=true->P.cellsOf fd.type=n)
  (hk:opE P ev hpR f dr gd g (.fld ag fd.offset n x) K):Sound P ⟨dst,.field t yx fi,ty,pos,after,gu⟩ ev hpR f gd g K:=by
 obtain ⟨d0,hd0⟩:=h0
 obtain ⟨inf,hinf⟩:=info_of_under hd0
 simp only [opE] at hk
 obtain ⟨o1,d1,hk1,h1⟩:=evG_spec hk
 split at hk1
 case h_2=>exact hk1.elim
 rename_i ds
 cases ag with
 | true=>
  simp only [if_true] at hk1
  refine Sound.fx hk1 fun ⟨p1,p2⟩ hg w G h r hi hr=>?_
  obtain ⟨cs,e1,hl,h3,h4⟩:=rv_agg (h1 (fun d' e=>hr yx x d' hx e) hg p1)
  refine ⟨.agg (cs.extract fd.offset (fd.offset+n)),exec_v (w':=w) (by rw [e1];simp [Instr.field,run_underlying ht,Result.andThen,hfd,part,asAgg,run_isAgg' hd0,ha,run_sizeOf _ hinf,hn]),?_⟩
  refine .agg (by simp;omega) (fun j c hc=>?_) (fun j c d hc hd=>?_)
  ·rw [Array.getElem?_extract] at hc;split at hc
   ·exact h3 _ c hc
   ·cases hc
  ·rw [Array.getElem?_extract] at hc;split at hc
   ·rw [List.getElem?_take] at hd;split at hd
    ·exact h4 _ c d hc (by simpa using hd)
    ·cases hd
   ·cases hc
 | false=>
  simp only [Bool.false_eq_true,if_false] at hk1
  refine Sound.fx hk1 fun ⟨p1,p2⟩ hg w G h r hi hr=>?_
  obtain ⟨cs,e1,hl,h3,h4⟩:=rv_agg (h1 (fun d' e=>hr yx x d' hx e) hg p1)
  have hc:cs[fd.offset]?=some cs[fd.offset]:=by simp [show fd.offset<cs.size by omega]
  refine ⟨cs[fd.offset],exec_v (w':=w) (by rw [e1];simp [Instr.field,run_underlying ht,Result.andThen,hfd,part,asAgg,run_isAgg' hd0,ha,hc]),h4 _ _ _ hc (by simp [List.getD,p2])⟩
theorem s_ixs {t:TypeId} {yx yi:Operand} {x i:X} (hx:cvX yx=some x) (hy:cvX yi=some i) (ht:P.underlying t=some .string)
  (hk:opE P ev hpR f dr gd g (.ixs x i) K):Sound P ⟨dst,.index t yx yi,ty,pos,after,gu⟩ ev hpR f gd g K:=by
 simp only [opE] at hk
 obtain ⟨o1,d1,hk1,h1⟩:=evG_spec hk
 obtain ⟨o2,d2,hk2,h2⟩:=evG_spec hk1
 split at hk2
 case h_2=>exact hk2.elim
 rename_i s kd n
 refine Sound.fx hk2 fun ⟨p1,p2,p3,p4⟩ hg w G h r hi hr=>?_
 obtain ⟨e1,_⟩:=rv_v (h1 (fun d' e=>hr yx x d' hx e) hg p1)
 obtain ⟨e2,_⟩:=rv_int (h2 (fun d' e=>hr yi i d' hy e) hg p2)
 have e3:s.data.toList.length=s.size:=rfl
 have hn:n.toNat<s.size:=by omega
 have e4:s[n.toNat]?=some (s.data.toList.getD n.toNat 0):=by
  have:s[n.toNat]?=some s[n.toNat]:=by simp [hn]
  rw [this]
  congr 1
  have h5:s.data.toList[n.toNat]?=some s[n.toNat]:=by rw [Array.getElem?_toList];exact Array.getElem?_eq_getElem (show n.toNat<s.data.size from hn)
  rw [List.getD,h5]
  rfl
 refine ⟨.int .u8 (s.data.toList.getD n.toNat 0).toNat,exec_v (w':=w) (by rw [e1,e2];simp only [Instr.index,asIntOf,Sem.run_bind,Sem.run_pure,Result.andThen,run_underlying ht,p3,if_true,e4]),rv_mkint ?_⟩
 have:=(s.data.toList.getD n.toNat 0).toNat_lt
 generalize (s.data.toList.getD n.toNat 0).toNat=m at this
 simp only [IntKind.min,IntKind.max,IntKind.signed,IntKind.bits]
 simp
 omega
theorem s_ixa {t e:TypeId} {m k:Nat} {ag:Bool} {yx yi:Operand} {x i:X} (hx:cvX yx=some x) (hy:cvX yi=some i) (ht:P.underlying t=some (.array m e)) (he: ∃d,P.underlying e=some d)
  (ha:isAggB P e=ag) (hke:P.cellsOf e=k) (h1k:ag=false->k=1)
  (hk:opE P ev hpR f dr gd g (.ixa ag m k x i) K):Sound P ⟨dst,.index t yx yi,ty,pos,after,gu⟩ ev hpR f gd g K:=by
 obtain ⟨d0,hd0⟩:=he
 obtain ⟨inf,hinf⟩:=info_of_under hd0
 simp only [opE] at hk
 obtain ⟨o1,d1,hk1,h1⟩:=evG_spec hk
 obtain ⟨o2,d2,hk2,h2⟩:=evG_spec hk1
 split at hk2
 case h_2=>exact hk2.elim
 rename_i ds kd n
 cases ag with
 | true=>
  simp only [if_true] at hk2
  refine Sound.fx hk2 fun ⟨p1,p2,p3,p4,p5⟩ hg w G h r hi hr=>?_
  obtain ⟨cs,e1,hl,h3,h4⟩:=rv_agg (h1 (fun d' e=>hr yx x d' hx e) hg p1)
  obtain ⟨e2,_⟩:=rv_int (h2 (fun d' e=>hr yi i d' hy e) hg p2)
  refine ⟨.agg (cs.extract (n.toNat * k) (n.toNat * k+k)),exec_v (w':=w) (by rw [e1,e2];simp [Instr.index,asIntOf,run_underlying ht,Result.andThen,p3,p4,part,run_isAgg' hd0,ha,run_sizeOf _ hinf,hke]),?_⟩
  refine .agg (by simp;omega) (fun j c hc=>?_) (fun j c d hc hd=>?_)
  ·rw [Array.getElem?_extract] at hc;split at hc
   ·exact h3 _ c hc
   ·cases hc
  ·rw [Array.getElem?_extract] at hc;split at hc
   ·rw [List.getElem?_take] at hd;split at hd
    ·exact h4 _ c d hc (by simpa using hd)
    ·cases hd
   ·cases hc
 | false=>
  simp only [Bool.false_eq_true,if_false] at hk2
  refine Sound.fx hk2 fun ⟨p1,p2,p3,p4,p5⟩ hg w G h r hi hr=>?_
  obtain ⟨cs,e1,hl,h3,h4⟩:=rv_agg (h1 (fun d' e=>hr yx x d' hx e) hg p1)
  obtain ⟨e2,_⟩:=rv_int (h2 (fun d' e=>hr yi i d' hy e) hg p2)
  have k1:=h1k rfl
  have hc:cs[n.toNat]?=some cs[n.toNat]:=by simp [show n.toNat<cs.size by omega]
  refine ⟨cs[n.toNat],exec_v (w':=w) (by rw [e1,e2];simp [Instr.index,asIntOf,run_underlying ht,Result.andThen,p3,p4,part,run_isAgg' hd0,ha,run_sizeOf _ hinf,hke,k1,hc]),h4 _ _ _ hc (by simp [List.getD,show n.toNat<ds.length by omega])⟩
theorem evO_spec {x:Option X} {K:Prop->Option Int->Prop} (hk:evO ev g x K):
  ∃o l,K o l/\ ∀ {w G h} {a:Act} (y:Option Operand),opt? y=some x->Rel ev w G h a->g=true->o->y.map a.eval=l.map (.int .i64):=by
 unfold evO at hk
 split at hk
 ·refine ⟨_,none,hk,fun y hy _ _ _=>?_⟩
  cases y with
  | none=>rfl
  | some y=>simp [opt?] at hy
 ·rename_i x
  obtain ⟨o,d,hk1,h1⟩:=evG_spec hk
  split at hk1
  ·rename_i n
   refine ⟨_,some n,hk1,fun y hy hr hg ho=>?_⟩
   cases y with
   | none=>simp [opt?] at hy
   | some y=>
    simp only [opt?,Option.map_eq_some_iff] at hy
    obtain ⟨x',hy,e⟩:=hy
    cases e
    obtain ⟨e1,_⟩:=rv_int (h1 (fun d' e=>hr y x d' hy e) hg ho)
    simp [e1]
  ·exact hk1.elim
theorem run_bound {w:World} {n:Int} {y:Nat} {code:BoundsCode} (h0:0<=n) (h1:n<=y):(Instr.sliceBound (.int .i64 n) y code).run P w= .ok n.toNat w:=by
 simp [Instr.sliceBound,asIntOf,h0,h1]
theorem run_bounds {w:World} {b:Bool} {len cap:Nat} (lo hi:Option Int) (h0:0<=lo.getD 0) (h1:lo.getD 0<=hi.getD len) (h2:hi.getD len<=len) (hc:len<=cap):
  (Instr.sliceBounds b len cap (lo.map (.int .i64)) (hi.map (.int .i64)) none).run P w= .ok ((lo.getD 0).toNat,(hi.getD len).toNat,cap) w:=by
 have r: ∀(n:Int) (y:Nat) code,0<=n->n<=y->(Instr.sliceBound (.int .i64 n) y code).run P w= .ok n.toNat w:=fun n y code=>run_bound
 cases lo with
 | none=>
  cases hi with
  | none=>simp [Instr.sliceBounds]
  | some h=>simp at h1 h2;simp [Instr.sliceBounds,r h cap _ h1 (by omega),Result.andThen]
 | some l=>
  cases hi with
  | none=>simp at h0 h1 h2;simp [Instr.sliceBounds,r l len _ h0 (by omega),Result.andThen]
  | some h=>simp at h0 h1 h2;simp [Instr.sliceBounds,r h cap _ (by omega) (by omega),r l h.toNat _ h0 (by omega),Result.andThen]
theorem take_drop_list {w:World} {G:Gh} {b off k:Nat} {u:Nat->Value} {es:List (List E)} (hm:es.length<=maxN) (hkk: ∀e∈es,e.length=k)
  (hp: ∀j,j<es.length * k->G.pub b (off+j)/\w.cell? ⟨b,off+j,none⟩=some (u j)) (hr: ∀(j:Nat) d,es.flatten[j]?=some d->RvE w G (u j) d)
  {l m cap':Nat} (h1:l<=m) (h2:m<=es.length) (hc:m-l<=cap'):RvE w G (.slice (some ⟨b,off+l * k,none⟩) (m-l) cap') (.sl ((es.take m).drop l)):=by
 have hkk': ∀e∈(es.take m).drop l,e.length=k:=fun e he=>hkk e (List.mem_of_mem_take (List.mem_of_mem_drop he))
 have hlen:((es.take m).drop l).length=m-l:=by simp;omega
 refine .sl (fun j=>u (l * k+j)) hlen hc (by omega) hkk' (fun j hj=>?_) (fun j d hd=>?_)
 ·rw [Nat.add_assoc]
  refine hp _ ?_
  have e1:(m-l) * k+l * k=m * k:=by rw [<-Nat.add_mul,Nat.sub_add_cancel h1]
  have e2:m * k<=es.length * k:=Nat.mul_le_mul_right k h2
  omega
 ·have hj:j<((es.take m).drop l).length * k:=by rw [<-flatten_len hkk'];exact (List.getElem?_eq_some_iff.1 hd).1
  rw [hlen] at hj
  refine hr _ d ?_
  have hk0:0<k:=by
   rcases Nat.eq_zero_or_pos k with e | e
   ·subst e;omega
   ·exact e
  have hjk:j / k<m-l:=Nat.div_lt_of_lt_mul (by rw [Nat.mul_comm];exact hj)
  have he:((es.take m).drop l)[j / k]?=some es[l+j / k]:=by
   rw [List.getElem?_drop,List.getElem?_take]
   simp [show l+j / k<m by omega,show l+j / k<es.length by omega]
  have hdm:j / k * k+j % k=j:=by rw [Nat.mul_comm];exact Nat.div_add_mod j k
  rw [<-hdm,flatten_get hkk' _ _ _ he (Nat.mod_lt _ hk0)] at hd
  rw [show l * k+j=(l+j / k) * k+j % k by rw [Nat.add_mul,Nat.add_assoc,hdm],flatten_get hkk (l+j / k) es[l+j / k] _ (by simp [show l+j / k<es.length by omega]) (Nat.mod_lt _ hk0)]
  exact hd
theorem empty_sl {w:World} {G:Gh} {a:Option Addr} {cap:Nat} (ha: ∀x,a=some x->x.spot=none) (hc:a=none->cap=0):RvE w G (.slice a 0 cap) (.sl []):=by
 cases a with
 | none=>rw [hc rfl];exact .nils fun _=>rfl
 | some x=>
  obtain ⟨b,off,sp⟩:=x
  have:sp=none:=ha _ rfl
  subst this
  exact .sl (k:=0) (fun _=>undef) rfl (Nat.zero_le _) (Nat.zero_le _) (by simp) (by simp) (by simp)
theorem s_slice {t e:TypeId} {yx:Operand} {x:X} {ylo yhi:Option Operand} {lo hi:Option X} {k0:Nat} (hx:cvX yx=some x) (hlo:opt? ylo=some lo) (hhi:opt? yhi=some hi)
  (ht:P.underlying t=some (.slice e)) (hke:P.cellsOf e=k0) (hz:P.cellsOf e≠0)
  (hk:opE P ev hpR f dr gd g (.slice k0 x lo hi) K):Sound P ⟨dst,.slice t yx ylo yhi none,ty,pos,after,gu⟩ ev hpR f gd g K:=by
 have run: ∀(w:World) (a:Option Addr) (len cap:Nat) (l h:Option Int),0<=l.getD 0->l.getD 0<=h.getD len->h.getD len<=len->len<=cap->
   (Instr.sliceAt t (.slice a len cap) (l.map (.int .i64)) (h.map (.int .i64)) none).run P w=
    .ok (.slice (if cap=(l.getD 0).toNat then a else a.map (·.add ((l.getD 0).toNat * k0))) ((h.getD len).toNat-(l.getD 0).toNat) (cap-(l.getD 0).toNat)) w:=
  fun w a len cap l h h0 h1 h2 hc=>by
   subst hke
   simp [Instr.sliceAt,Instr.slice,run_underlying ht,Result.andThen,run_bounds l h h0 h1 h2 hc,run_size hz]
 simp only [opE] at hk
 obtain ⟨o1,d1,hk1,h1⟩:=evG_spec hk
 obtain ⟨o2,l,hk2,h2⟩:=evO_spec hk1
 obtain ⟨o3,h',hk3,h3⟩:=evO_spec hk2
 split at hk3
 ·rename_i j off n k
  refine Sound.fx hk3 fun ⟨p0,p1,p2,p3,p4,p5,p6⟩ hg w G h r hi hr=>?_
  subst p0
  have e1:=h2 ylo hlo hr hg p2
  have e2:=h3 yhi hhi hr hg p3
  have h4:=h1 (fun d' e=>hr yx x d' hx e) hg p1
  generalize hz1:r.eval yx=z at h4
  cases h4 with
  | bs hb hc hl hm=>
   rename_i cap ds b o
   refine ⟨_,exec_v (w':=w) (by rw [hz1,e1,e2];exact run w _ _ _ l h' p4 p5 p6 hc),?_⟩
   have q:(h'.getD n).toNat-(l.getD 0).toNat=(h'.getD n-l.getD 0).toNat:=by omega
   rw [q]
   by_cases hcl:cap=(l.getD 0).toNat
   ·rw [if_pos hcl]
    exact .bs hb (by omega) (.inl (by omega)) (by omega)
   ·rw [if_neg hcl]
    simp only [Option.map_some,addr_add]
    refine .bs hb (by omega) ?_ (by omega)
    rcases hl with hl | ⟨rfl,rfl,hl⟩
    ·exact .inl (by omega)
    ·refine .inr ⟨rfl,rfl,?_⟩
     have:(l.getD 0).toNat * k+(cap-(l.getD 0).toNat) * k=cap * k:=by rw [<-Nat.add_mul];congr 1;omega
     omega
 ·rename_i j n k
  refine Sound.fx hk3 fun ⟨p0,p1,p2,p3,p4,p5,p6⟩ hg w G h r hi hr=>?_
  subst p0
  have e1:=h2 ylo hlo hr hg p2
  have e2:=h3 yhi hhi hr hg p3
  obtain ⟨a,cap,e5,hd,hm,hc,hv⟩:=rv_vec (h1 (fun d' e=>hr yx x d' hx e) hg p1)
  refine ⟨_,exec_v (w':=w) (by rw [e5,e1,e2];exact run w _ _ _ l h' (by omega) (by omega) p6 hc),?_⟩
  have q:(l.getD 0).toNat=0:=by omega
  rw [q,Nat.sub_zero,Nat.sub_zero,Nat.zero_mul]
  have q2:(if cap=0 then a else a.map (·.add 0))=a:=by
   split
   ·rfl
   ·cases a with
    | none=>rfl
    | some a=>simp [Addr.add]
  rw [q2]
  refine .vec hd (by omega) (by omega) fun b k' ds e=>?_
  obtain ⟨r1,r2,r3,r4⟩:=hv b k' ds e
  have hle:(h'.getD (n:Int)).toNat * k<=n * k:=Nat.mul_le_mul_right k (by omega)
  refine ⟨r1,by omega,fun hb=>?_,r4⟩
  obtain ⟨r5,r6,r7⟩:=r3 hb
  exact ⟨by omega,r6,r7⟩
 ·split at hk3
  ·rename_i es hes
   refine Sound.fx hk3 fun ⟨p1,p2,p3,p0,p4,p5,p6⟩ hg w G h r hi hr=>?_
   have e1:=h2 ylo hlo hr hg p2
   have e2:=h3 yhi hhi hr hg p3
   have e4:(h'.getD es.length-l.getD 0).toNat=(h'.getD es.length).toNat-(l.getD 0).toNat:=by omega
   have nilcase:es= []->(l.getD 0).toNat=0/\(h'.getD es.length).toNat=0:=fun e=>by subst e;simp at p5 p6 ⊢;omega
   rcases rv_list (h1 (fun d' e=>hr yx x d' hx e) hg p1) hes with ⟨b,e5,e3,hsp⟩ | r'
   ·obtain ⟨q1,q2⟩:=nilcase e3
    subst e3
    refine ⟨.slice b 0 0,exec_v (w':=w) ?_,?_⟩
    ·rw [e5,e1,e2]
     have:=run w b 0 0 l h' p4 (by simpa using p5) (by simpa using p6) (Nat.le_refl _)
     simp only [List.length_nil] at q2
     rw [q1,q2] at this
     exact this.trans (by simp)
    ·simp only [List.take_nil,List.drop_nil]
     exact .e (empty_sl hsp fun _=>rfl)
   ·rcases rve_sl r' with ⟨a0,c0,e5,e3,hac⟩ | ⟨b,off,cap,k',u,e5,hcap,hm,hkk,hp,hrr⟩
    ·obtain ⟨q1,q2⟩:=nilcase e3
     subst e3
     refine ⟨.slice a0 0 c0,exec_v (w':=w) ?_,?_⟩
     ·rw [e5,e1,e2]
      have:=run w a0 0 c0 l h' p4 (by simpa using p5) (by simpa using p6) (Nat.zero_le _)
      simp only [List.length_nil] at q2
      rw [q1,q2] at this
      exact this.trans (by cases a0 <;>simp [Addr.add])
     ·simp only [List.take_nil,List.drop_nil]
      exact .e (.nils hac)
    ·refine ⟨_,exec_v (w':=w) (by rw [e5,e1,e2];exact run w _ _ _ l h' p4 p5 p6 hcap),.e ?_⟩
     by_cases hcl:cap=(l.getD 0).toNat
     ·rw [if_pos hcl]
      have q1:(h'.getD es.length).toNat-(l.getD 0).toNat=0:=by omega
      have q2:(es.take (h'.getD es.length).toNat).drop (l.getD 0).toNat= []:=by apply List.drop_eq_nil_of_le;simp;omega
      rw [q1,q2]
      exact empty_sl (by simp) (by simp)
     ·rw [if_neg hcl]
      simp only [Option.map_some,addr_add]
      rcases Nat.eq_zero_or_pos es.length with hl0 | hl0
      ·have:es= []:=List.length_eq_zero_iff.1 hl0
       subst this
       simp only [List.take_nil,List.drop_nil]
       have q1:(h'.getD ([]:List (List E)).length).toNat-(l.getD 0).toNat=0:=by simp at p6 ⊢;omega
       rw [q1]
       exact empty_sl (by simp) (by simp)
      ·have:k'=k0:=by
        obtain ⟨e0,he0⟩:=List.exists_mem_of_length_pos hl0
        rw [<-hkk e0 he0,allLen_iff.1 p0 e0 he0]
       subst this
       exact take_drop_list hm hkk hp hrr (by omega) (by omega) (by omega)
  ·exact hk3.elim
theorem s_slstr {t:TypeId} {yx:Operand} {x:X} {ylo yhi:Option Operand} {lo hi:Option X} (hx:cvX yx=some x) (hlo:opt? ylo=some lo) (hhi:opt? yhi=some hi)
  (ht:P.underlying t=some .string)
  (hk:opE P ev hpR f dr gd g (.slstr x lo hi) K):Sound P ⟨dst,.slice t yx ylo yhi none,ty,pos,after,gu⟩ ev hpR f gd g K:=by
 simp only [opE] at hk
 obtain ⟨o1,d1,hk1,h1⟩:=evG_spec hk
 obtain ⟨o2,l,hk2,h2⟩:=evO_spec hk1
 obtain ⟨o3,h',hk3,h3⟩:=evO_spec hk2
 split at hk3
 case h_2=>exact hk3.elim
 rename_i s
 refine Sound.fx hk3 fun ⟨p1,p2,p3,p4,p5,p6⟩ hg w G h r hi hr=>?_
 have e1:=h2 ylo hlo hr hg p2
 have e2:=h3 yhi hhi hr hg p3
 obtain ⟨e5,e6⟩:=rv_v (h1 (fun d' e=>hr yx x d' hx e) hg p1)
 have e7:s.data.toList.length=s.size:=rfl
 rw [e7] at p5 p6
 refine ⟨.string (s.extract (l.getD 0).toNat (h'.getD s.size).toNat),exec_v (w':=w) ?_,?_⟩
 ·rw [e5,e1,e2]
  simp [Instr.sliceAt,Instr.slice,run_underlying ht,Result.andThen,run_bounds l h' p4 p5 p6 (Nat.le_refl _)]
 ·have:s.extract (l.getD 0).toNat (h'.getD s.size).toNat=⟨⟨(s.data.toList.take (h'.getD s.data.toList.length).toNat).drop (l.getD 0).toNat⟩⟩:=by
   apply ByteArray.ext
   apply Array.ext'
   rw [e7]
   simp [ByteArray.data_extract,List.drop_take]
  rw [this]
  refine rv_mkstr ?_
  have:=str_bound e6
  simp only [List.length_drop,List.length_take]
  omega
theorem loadBytes_spec {w:World} {G:Gh} {es:List (List E)} {u:Nat->Value} (hu: ∀e∈es,∃c:UInt8,e= [.v (.int .u8 c.toNat)])
  (hr: ∀(j:Nat) d,es.flatten[j]?=some d->RvE w G (u j) d): ∀j,j<es.length->u j= .int .u8 ((u8s es).getD j 0).toNat:=by
 intro j hj
 obtain ⟨c,hc⟩:=hu es[j] (List.getElem_mem hj)
 have h1:es.flatten[j]?=some (.v (.int .u8 c.toNat)):=by
  have hk: ∀e∈es,e.length=1:=fun e he=>by obtain ⟨c,hc⟩:=hu e he;simp [hc]
  have:=flatten_get hk j es[j] 0 (by simp [hj]) (by omega)
  simpa [hc] using this
 have h2:=hr j _ h1
 generalize u j=z at h2
 cases h2 with
 | v h2=>simp [u8s,List.getD,hj,hc]
theorem push_all (l:List UInt8): ∀s:ByteArray,(l.map fun c=>(c.toNat:Int)).foldl (fun r n=>r.push (UInt8.ofNat n.toNat)) s=⟨⟨s.data.toList++l⟩⟩:=by
 induction l with
 | nil=>intro s;simp
 | cons c l ih=>
  intro s
  simp only [List.map_cons,List.foldl_cons,ih]
  apply ByteArray.ext
  apply Array.ext'
  simp
theorem s_convbs {s d e:TypeId} {yx:Operand} {x:X} (hx:cvX yx=some x) (hs:P.underlying s=some (.slice e)) (hd:P.underlying d=some .string) (he:P.underlying e=some (.int .u8))
  (hk:opE P ev hpR f dr gd g (.convbs x) K):Sound P ⟨dst,.convert s d yx,ty,pos,after,gu⟩ ev hpR f gd g K:=by
 simp only [opE] at hk
 obtain ⟨o1,d1,hk1,h1⟩:=evG_spec hk
 split at hk1
 case h_2=>exact hk1.elim
 rename_i es hes
 refine Sound.fx hk1 fun ⟨p1,p2⟩ hg w G h r hi hr=>?_
 have run: ∀v,(convert s d v).run P w=(Conv.bytesToString v).run P w\/ ¬ ∃a n c,v= .slice a n c:=fun v=>by
  cases v <;>first | (right;rintro ⟨_,_,_,h⟩;cases h;done) | skip
  left
  rename_i a n c
  cases a <;>simp [convert,run_underlying hs,run_underlying hd,run_underlying he,Result.andThen]
 rcases rv_list (h1 (fun d' e=>hr yx x d' hx e) hg p1) hes with ⟨b,e5,e3,hsp⟩ | r'
 ·subst e3
  refine ⟨.string .empty,exec_v (w':=w) ?_,rv_mkstr (Nat.zero_le _)⟩
  rw [e5,(run _).resolve_right (fun h=>h ⟨_,_,_,rfl⟩)]
  cases b with
  | none=>rfl
  | some a=>simp [Conv.bytesToString,loadCells,loadCellsFrom]
 ·rcases rve_sl r' with ⟨a0,c0,e5,e3,_⟩ | ⟨b,off,cap,k',u,e5,hcap,hm,hkk,hp,hrr⟩
  ·subst e3
   refine ⟨.string .empty,exec_v (w':=w) ?_,rv_mkstr (Nat.zero_le _)⟩
   rw [e5,(run _).resolve_right (fun h=>h ⟨_,_,_,rfl⟩)]
   cases a0 with
   | none=>rfl
   | some a=>simp [Conv.bytesToString,loadCells,loadCellsFrom]
  ·have hu:=loadBytes_spec p2 hrr
   have hl:(u8s es).length=es.length:=by simp [u8s]
   have hk1': ∀j,j<es.length->w.cell? ⟨b,off+j,none⟩=some (u j):=fun j hj=>by
    have k1:k'=1:=by
     obtain ⟨c,hc⟩:=p2 es[j] (List.getElem_mem hj)
     rw [<-hkk es[j] (List.getElem_mem hj),hc];rfl
    exact (hp j (by rw [k1];omega)).2
   have hlc:(loadCells ⟨b,off,none⟩ es.length).run P w= .ok (((u8s es).map fun c=>(c.toNat:Int)).map (Value.int .u8)).toArray w:=by
    rw [run_loadCells w ⟨b,off,none⟩ es.length u (fun j hj=>by rw [addr_add];exact hk1' j hj)]
    congr 2
    apply List.ext_getElem?
    intro j
    by_cases hj:j<es.length
    ·simp [hj,hu j hj,List.getElem?_eq_getElem (show j<(u8s es).length by omega)]
    ·simp [List.getElem?_eq_none (show (u8s es).length<=j by omega),hj]
   refine ⟨.string ⟨⟨u8s es⟩⟩,exec_v (w':=w) ?_,rv_mkstr (by rw [hl];exact hm)⟩
   rw [e5,(run _).resolve_right (fun h=>h ⟨_,_,_,rfl⟩),run_bytesToString w _ _ _ _ hlc,push_all]
   rfl
theorem toEs_rel {w:World} {G:Gh} {h:Hp} : ∀ {ds:List D} {es:List E},toEs ds=some es->es.length=ds.length/\ ∀(j:Nat) v e d,ds[j]?=some d->es[j]?=some e->Rv w G h v d->RvE w G v e:=by
 intro ds
 induction ds with
 | nil=>intro es h;simp [toEs] at h;subst h;simp
 | cons d r ih=>
  intro es he
  simp only [toEs,Option.bind_eq_some_iff,Option.map_eq_some_iff] at he
  obtain ⟨x,hx,r',hr',rfl⟩:=he
  obtain ⟨h1,h2⟩:=ih hr'
  refine ⟨by simp [h1],fun j v e d' hd he hv=>?_⟩
  cases j with
  | zero=>
   simp at hd he;subst hd;subst he
   cases hv <;>simp [D.toE] at hx
   ·subst hx;assumption
   ·subst hx;assumption
   ·subst hx;exact empty_sl (by assumption) fun _=>rfl
  | succ j=>exact h2 j v e d' (by simpa using hd) (by simpa using he) hv
theorem toE_rel {w:World} {G:Gh} {h:Hp} {d:D} {e:E} {v:Value} (he:d.toE=some e) (hv:Rv w G h v d):RvE w G v e:=by
 have:toEs [d]=some [e]:=by simp [toEs,he]
 exact (toEs_rel this).2 0 v e d rfl rfl hv
theorem s_mki {t:TypeId} {yx:Operand} {x:X} (hx:cvX yx=some x) (ht: ∃d,P.underlying t=some d/\ ∀ms,d≠ .interface ms)
  (hk:opE P ev hpR f dr gd g (.mki t x) K):Sound P ⟨dst,.makeInterface t yx,ty,pos,after,gu⟩ ev hpR f gd g K:=by
 obtain ⟨d0,hd0,hni⟩:=ht
 have run: ∀(w:World) v,(Instr.makeInterface t v).run P w= .ok (.iface t v) w:=fun w v=>by
  simp only [Instr.makeInterface,Sem.run_bind,run_underlying hd0,Result.andThen]
  cases d0 <;>first | rfl | exact absurd rfl (hni _)
 simp only [opE] at hk
 obtain ⟨o1,d1,hk1,h1⟩:=evG_spec hk
 split at hk1
 ·split at hk1
  ·rename_i ds _ es hes
   refine Sound.pure (tc:= []) hk1 fun p1 hg w G h r hi _ hr=>?_
   obtain ⟨cs,e1,hl,h3,h4⟩:=rv_agg (h1 (fun d' e=>hr yx x d' hx e) hg p1)
   obtain ⟨q1,q2⟩:=toEs_rel (w:=w) (G:=G) (h:=h) hes
   refine ⟨_,exec_v (w':=w) (run w _),?_⟩
   rw [e1]
   refine .e (.ia (by omega) fun j c d hc hd=>?_)
   have hj:j<ds.length:=by rw [<-q1];exact (List.getElem?_eq_some_iff.1 hd).1
   exact q2 j c d _ (List.getElem?_eq_getElem hj) hd (h4 j c _ hc (List.getElem?_eq_getElem hj))
  ·exact hk1.elim
 ·split at hk1
  ·rename_i y hy
   refine Sound.pure (tc:= []) hk1 fun p1 hg w G h r hi _ hr=>?_
   exact ⟨_,exec_v (w':=w) (run w _),.e (.iv (toE_rel hy (h1 (fun d' e=>hr yx x d' hx e) hg p1)))⟩
  ·exact hk1.elim
end
end Go.Proofs.YtfplalbognalkaaGreat.Ab
