/- Arguments of any plain type, in the abstract view. -/
import Derived.Test.YtfplalbognalkaaGreatMFnExactUnnest7
import Derived.Test.YtfplalbognalkaaGreatRows
import Derived.Test.YtfplalbognalkaaGreatChecked
set_option linter.unusedSimpArgs false
set_option linter.unusedVariables false
set_option linter.unnecessarySimpa false
set_option linter.constructorNameAsVariable false
set_option maxRecDepth 100000
set_option maxHeartbeats 16000000
namespace Go.Proofs.YtfplalbognalkaaGreat.Ab
open Go Go.ChangeShapes Go.WideShapes Go.ChangeAt Go.RowKit
def WT (P:Program):Nat->TypeId->List E->Prop
 | 0,_,_=>False
 | n+1,t,es=>match P.underlying t with
  | some .bool=> ∃b,es= [.bool b]
  | some (.int k)=> ∃m,es= [.v (.int k m)]/\k.min<=m/\m<=k.max
  | some .string=> ∃s,es= [.v (.string s)]/\s.size<=maxN
  | some (.struct fs)=>es.length=P.cellsOf t/\ ∀(i:Nat) f,fs[i]?=some f->WT P n f.type ((es.drop f.offset).take (P.cellsOf f.type))
  | some (.slice e)=> ∃rows,es= [.sl rows]/\rows.length<=maxN/\ ∀r∈rows,WT P n e r/\r.length=P.cellsOf e
  | _=>False
def laidAt (P:Program):Nat->List Field->Option Nat
 | acc, []=>some acc
 | acc,f::r=>if f.offset=acc then laidAt P (acc+P.cellsOf f.type) r else none
def okT (P:Program):Nat->TypeId->Bool
 | 0,_=>false
 | n+1,t=>match P.underlying t with
  | some .bool | some (.int _) | some .string=>P.cellsOf t==1
  | some (.struct fs)=>fs.toList.all (fun f=>okT P n f.type)&&laidAt P 0 fs.toList==some (P.cellsOf t)
  | some (.slice e)=>P.cellsOf t==1&&okT P n e&&decide (0<P.bytesOf e)&&decide (0<P.cellsOf e)
  | _=>false
def RelE (W:World) (cs:List Value) (es:List E):Prop:=es.length=cs.length/\ ∀(j:Nat) c e,cs[j]?=some c->es[j]?=some e->RvE W (pubAll W) c e
theorem laidAt_le {P:Program} : ∀(fs:List Field) (acc tot:Nat),laidAt P acc fs=some tot->acc<=tot
 | [],acc,tot,h=>by simp [laidAt] at h;omega
 | f::r,acc,tot,h=>by
  simp only [laidAt] at h
  split at h
  ·have:=laidAt_le r _ _ h;omega
  ·cases h
theorem fields_E {P:Program} {W:World} {n:Nat} {cs:List Value} : ∀(fs:List Field) (acc tot:Nat),laidAt P acc fs=some tot->tot=cs.length->
  (∀(i:Nat) f,fs[i]?=some f-> ∃es,WT P n f.type es/\RelE W ((cs.drop f.offset).take (P.cellsOf f.type)) es)->
  ∃es,RelE W (cs.drop acc) es/\ ∀(i:Nat) f,fs[i]?=some f->WT P n f.type ((es.drop (f.offset-acc)).take (P.cellsOf f.type))/\acc<=f.offset
 | [],acc,tot,h,ht,_=>by
  simp [laidAt] at h
  refine ⟨[],⟨by simp;omega,fun j c e _ he=>by simp at he⟩,fun i f hf=>by simp at hf⟩
 | f::r,acc,tot,h,ht,hf=>by
  simp only [laidAt] at h
  split at h
  case isFalse=>cases h
  rename_i ho
  have hle:=laidAt_le r _ _ h
  obtain ⟨es,w1,l1,r1⟩:=hf 0 f rfl
  obtain ⟨es',⟨l2,r2⟩,w2⟩:=fields_E r _ tot h ht fun i g hg=>hf (i+1) g (by simpa using hg)
  have hl1:es.length=P.cellsOf f.type:=by rw [l1,ho];simp;omega
  refine ⟨es++es',⟨?_,fun j c e hc he=>?_⟩,fun i g hg=>?_⟩
  ·rw [List.length_append,l2,hl1];simp;omega
  ·rw [List.getElem?_drop] at hc
   by_cases hj:j<es.length
   ·rw [List.getElem?_append_left hj] at he
    refine r1 j c e ?_ he
    rw [List.getElem?_take,if_pos (by omega),List.getElem?_drop,ho];exact hc
   ·rw [List.getElem?_append_right (by omega)] at he
    refine r2 (j-es.length) c e ?_ he
    rw [List.getElem?_drop,<-hc]
    congr 1;omega
  ·cases i with
   | zero=>
    simp at hg;subst hg
    rw [ho,Nat.sub_self,List.drop_zero,<-hl1,List.take_left]
    exact ⟨w1,Nat.le_refl _⟩
   | succ i=>
    obtain ⟨a,b⟩:=w2 i g (by simpa using hg)
    refine ⟨?_,by omega⟩
    have:g.offset-acc=es.length+(g.offset-(acc+P.cellsOf f.type)):=by omega
    rw [this,<-List.drop_drop,List.drop_left]
    exact a
section
variable {H:Type} {enc:TypeId×Value->H} {P:Program} {W:World} {sp:Nat->Bool} {held:Bool}
theorem weightsEach_get: ∀ {ts:List TypeId} {ds:List (DataW H)} {i:Nat} {t:TypeId} {d:DataW H},ts[i]?=some t->ds[i]?=some d-> ∀k∈d.weights P t,k∈DataW.weightsEach P ts ds
 | [],_,_,_,_,h,_,_,_=>by simp at h
 | _::_, [],_,_,_,_,h,_,_=>by simp at h
 | t::ts,d::ds,0,t',d',h1,h2,k,hk=>by
  simp at h1 h2;subst h1;subst h2
  simp [DataW.weightsEach,hk]
 | t::ts,d::ds,i+1,t',d',h1,h2,k,hk=>by
  simp only [DataW.weightsEach,List.mem_append]
  exact .inr (weightsEach_get (by simpa using h1) (by simpa using h2) k hk)
theorem weightsAll_get {e:TypeId} : ∀ {ds:List (DataW H)} {d:DataW H},d∈ds-> ∀k∈d.weights P e,k∈DataW.weightsAll P e ds
 | [],_,h,_,_=>by cases h
 | d::ds,d',h,k,hk=>by
  simp only [DataW.weightsAll,List.mem_append]
  cases h with
  | head=>exact .inl hk
  | tail _ h=>exact .inr (weightsAll_get h k hk)
theorem list_of {α:Type} {Q:Nat->α->Prop} : ∀(n:Nat),(∀i,i<n-> ∃y,Q i y)-> ∃l:List α,l.length=n/\ ∀(i:Nat) y,l[i]?=some y->Q i y
 | 0,_=>⟨[],rfl,fun i y h=>by simp at h⟩
 | n+1,h=>by
  obtain ⟨l,hl,hq⟩:=list_of n fun i hi=>h i (by omega)
  obtain ⟨y,hy⟩:=h n (by omega)
  refine ⟨l++ [y],by simp [hl],fun i z hz=>?_⟩
  by_cases hi:i<l.length
  ·rw [List.getElem?_append_left hi] at hz;exact hq i z hz
  ·rw [List.getElem?_append_right (by omega)] at hz
   have:i-l.length=0:=by
    rcases Nat.eq_zero_or_pos (i-l.length) with h0 | h0
    ·exact h0
    ·rw [List.getElem?_eq_none (by simp;omega)] at hz;cases hz
   rw [this] at hz
   simp at hz
   subst hz
   have:i=n:=by omega
   rw [this];exact hy
theorem trod_E: ∀(n fuel:Nat) (t:TypeId) (cs:List Value) (x:DataW H×List MemPlace),okT P n t=true->DataW.trod enc P W 0 sp held fuel t cs=some x->(∀k∈x.1.weights P t,k<=reachBytes)->
  ∃es,WT P n t es/\RelE W cs es
 | 0,_,_,_,_,h,_,_=>by simp [okT] at h
 | n+1,fuel,t,cs,x,hok,hx,hw=>by
  simp only [okT] at hok
  split at hok
  ·rename_i hu
   obtain ⟨b,rfl,_⟩:=DataW.trod_bool hu hx
   refine ⟨[.bool b],by simp [WT,hu],rfl,fun j c e hc he=>?_⟩
   match j with
   | 0=>simp at hc he;subst hc;subst he;exact .v rfl
   | j+1=>simp at hc
  ·rename_i k hu
   obtain ⟨m,rfl,_,hwf⟩:=DataW.trod_int hu hx
   simp only [Lit.wf,Bool.and_eq_true,decide_eq_true_eq] at hwf
   refine ⟨[.v (.int k m)],by simp [WT,hu,hwf],rfl,fun j c e hc he=>?_⟩
   match j with
   | 0=>simp at hc he;subst hc;subst he;exact .v (by simpa [okV] using hwf)
   | j+1=>simp at hc
  ·rename_i hu
   obtain ⟨s,rfl,rfl,_⟩:=DataW.trod_string hu hx
   have hs:s.size<=maxN:=by
    have:=hw s.data.toList.length (by simp [DataW.weights])
    have e:s.data.toList.length=s.size:=rfl
    simp only [reachBytes,maxN] at *
    omega
   refine ⟨[.v (.string s)],by simp [WT,hu,hs],rfl,fun j c e hc he=>?_⟩
   match j with
   | 0=>simp at hc he;subst hc;subst he;exact .v (by simpa [okV] using hs)
   | j+1=>simp at hc
  ·rename_i fs hu
   simp only [Bool.and_eq_true,List.all_eq_true,beq_iff_eq] at hok
   obtain ⟨xs,m,rfl,rfl,hl,hxl,hf⟩:=DataW.trod_struct hu hx
   obtain ⟨es,hr,hwt⟩:=fields_E (P:=P) (W:=W) (n:=n) (cs:=cs) fs.toList 0 _ hok.2 hl.symm (fun i f hfi=>by
    have hfi':fs[i]?=some f:=by simpa using hfi
    have hi:i<xs.length:=by rw [hxl];exact (Array.getElem?_eq_some_iff.1 hfi').1
    have h1:=hf i f hfi'
    rw [List.getElem?_eq_getElem hi] at h1
    refine trod_E n m f.type _ _ (hok.1 f (List.mem_of_getElem? hfi)) h1 fun k hk=>hw k ?_
    simp only [DataW.weights,hu]
    exact weightsEach_get (i:=i) (by simp [hfi]) (by simp [hi]) k hk)
   rw [List.drop_zero] at hr
   refine ⟨es,?_,hr⟩
   simp only [WT,hu]
   exact ⟨hr.1.trans hl,fun i f hfi=>by simpa using (hwt i f (by simpa using hfi)).1⟩
  ·rename_i e hu
   simp only [Bool.and_eq_true,beq_iff_eq,decide_eq_true_eq] at hok
   obtain ⟨⟨⟨_,hoe⟩,hbe⟩,hce⟩:=hok
   rcases DataW.trod_slice hu hx with ⟨rfl,_⟩ | ⟨a,len,cap,elems,rest,m,rfl,rfl,rfl,_,hlc,_,hel,hrows,_,_⟩
   ·refine ⟨[.sl []],by simp [WT,hu],rfl,fun j c e hc he=>?_⟩
    match j with
    | 0=>simp at hc he;subst hc;subst he;exact .nils fun _=>rfl
    | j+1=>simp at hc
   ·have hlen:len<=maxN:=by
     have:=hw ((elems.length+rest.length) * P.bytesOf e) (by simp [DataW.weights,hu])
     have h1:elems.length+rest.length<=(elems.length+rest.length) * P.bytesOf e:=Nat.le_mul_of_pos_right _ hbe
     simp only [reachBytes,maxN] at *
     omega
    obtain ⟨rows,hrl,hrq⟩:=list_of (Q:=fun i r=>WT P n e r/\ ∃cs',W.cells? 0 (a.add (i * P.cellsOf e)) (P.cellsOf e)=some cs'/\RelE W cs' r) len fun i hi=>by
     have h1:=hrows i hi
     have hi':i<elems.length:=by omega
     rw [List.getElem?_eq_getElem hi',Option.bind_eq_some_iff] at h1
     obtain ⟨cs',h2,h3⟩:=h1
     obtain ⟨r,w1,w2⟩:=trod_E n m e cs' _ hoe h3 fun k hk=>hw k (by
      simp only [DataW.weights,hu,List.mem_cons,List.mem_append]
      exact .inr (.inl (weightsAll_get (List.mem_map.2 ⟨_,List.getElem_mem hi',rfl⟩) k hk)))
     exact ⟨r,w1,cs',h2,w2⟩
    have hcells: ∀(i:Nat) r,rows[i]?=some r->r.length=P.cellsOf e/\ ∀j,j<P.cellsOf e-> ∃c,W.cell? ((a.add (i * P.cellsOf e)).add j)=some c/\ ∀d,r[j]?=some d->RvE W (pubAll W) c d:=by
     intro i r hr
     obtain ⟨_,cs',h1,h2,h3⟩:=hrq i r hr
     simp only [World.cells?,Nat.zero_le,if_true] at h1
     have hcl:=mapM_some_length h1
     simp only [List.length_range] at hcl
     refine ⟨h2.trans hcl,fun j hj=>?_⟩
     have h4:=mapM_some_get h1 j j (by simp [hj])
     rw [List.getElem?_eq_getElem (show j<cs'.length by omega)] at h4
     exact ⟨_,h4,fun d hd=>h3 j _ d (List.getElem?_eq_getElem (by omega)) hd⟩
    refine ⟨[.sl rows],?_,rfl,fun j c d hc hd=>?_⟩
    ·simp only [WT,hu]
     refine ⟨rows,rfl,by omega,fun r hr=>?_⟩
     obtain ⟨i,hi,rfl⟩:=List.getElem_of_mem hr
     exact ⟨(hrq i _ (List.getElem?_eq_getElem hi)).1,(hcells i _ (List.getElem?_eq_getElem hi)).1⟩
    ·match j with
     | j+1=>simp at hc
     | 0=>
      simp at hc hd
      subst hc;subst hd
      rcases Nat.eq_zero_or_pos len with h0 | h0
      ·have:rows= []:=List.length_eq_zero_iff.1 (by omega)
       subst this;subst h0
       exact .nils fun h=>by cases h
      ·obtain ⟨b,off,spt⟩:=a
       have hsp:spt=none:=by
        obtain ⟨_,h1⟩:=hcells 0 _ (List.getElem?_eq_getElem (by omega))
        obtain ⟨c,h2,_⟩:=h1 0 hce
        simp only [Nat.zero_mul,Addr.add,if_true,World.cell?] at h2
        split at h2
        ·split at h2
         ·cases h2
         ·rename_i hs;simpa using hs
        ·cases h2
       subst hsp
       have hcell: ∀j,j<len * P.cellsOf e-> ∃c,W.cell? ⟨b,off+j,none⟩=some c/\ ∀d,rows.flatten[j]?=some d->RvE W (pubAll W) c d:=by
        intro j hj
        have hi:j / P.cellsOf e<rows.length:=by rw [hrl];exact Nat.div_lt_of_lt_mul (by rw [Nat.mul_comm];exact hj)
        have hr:=List.getElem?_eq_getElem hi
        obtain ⟨h1,h2⟩:=hcells _ _ hr
        obtain ⟨c,h3,h4⟩:=h2 (j % P.cellsOf e) (Nat.mod_lt _ hce)
        have hjj:j / P.cellsOf e * P.cellsOf e+j % P.cellsOf e=j:=by rw [Nat.mul_comm];exact Nat.div_add_mod j _
        rw [addr_add,addr_add,Nat.add_assoc,hjj] at h3
        refine ⟨c,h3,fun d hd=>h4 d ?_⟩
        have hk: ∀r∈rows,r.length=P.cellsOf e:=fun r hr=>by
         obtain ⟨i,hi,rfl⟩:=List.getElem_of_mem hr
         exact (hcells i _ (List.getElem?_eq_getElem hi)).1
        rw [<-flatten_get hk _ _ _ hr (Nat.mod_lt _ hce),hjj];exact hd
       refine .sl (k:=P.cellsOf e) (fun j=>(W.cell? ⟨b,off+j,none⟩).getD undef) hrl hlc (by omega) (fun r hr=>?_) (fun j hj=>?_) (fun j d hd=>?_)
       ·obtain ⟨i,hi,rfl⟩:=List.getElem_of_mem hr
        exact (hcells i _ (List.getElem?_eq_getElem hi)).1
       ·obtain ⟨c,h1,_⟩:=hcell j hj
        refine ⟨?_,by simp [h1]⟩
        show b<W.heap.size
        simp only [World.cell?] at h1
        split at h1
        ·rename_i hb
         exact (Array.getElem?_eq_some_iff.1 hb).1
        ·cases h1
       ·have hj:j<len * P.cellsOf e:=by
         have hk: ∀r∈rows,r.length=P.cellsOf e:=fun r hr=>by
          obtain ⟨i,hi,rfl⟩:=List.getElem_of_mem hr
          exact (hcells i _ (List.getElem?_eq_getElem hi)).1
         rw [<-hrl,<-flatten_len hk];exact (List.getElem?_eq_some_iff.1 hd).1
        obtain ⟨c,h1,h2⟩:=hcell j hj
        simp only [h1,Option.getD_some]
        exact h2 d hd
  ·cases hok
end
end Go.Proofs.YtfplalbognalkaaGreat.Ab
/- What the laws of values share. -/
namespace Go.Proofs.YtfplalbognalkaaGreat.Ab
open Go Go.ChangeShapes Go.WideShapes Go.ChangeAt Go.RowKit
attribute [local irreducible] Tryz.prog
theorem own:ownKnob Tryz.prog.godebug=none:=by kernel_rfl
theorem laid:laidOutB Tryz.prog=true:=by kernel_rfl
theorem cs24:Tryz.prog.cellsOf 286=2:=by kernel_rfl
theorem cs4:Tryz.prog.cellsOf 4=1:=by kernel_rfl
theorem cs2:Tryz.prog.cellsOf 2=1:=by kernel_rfl
end Go.Proofs.YtfplalbognalkaaGreat.Ab
