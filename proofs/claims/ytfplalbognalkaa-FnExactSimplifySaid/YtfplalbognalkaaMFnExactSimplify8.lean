/- Shapes of arguments. -/
import Derived.Test.YtfplalbognalkaaMFnExactSimplify7
set_option linter.unusedSimpArgs false
set_option linter.unusedVariables false
set_option linter.unnecessarySimpa false
set_option linter.constructorNameAsVariable false
namespace Go.Proofs.Ytfplalbognalkaa.Ab
open Go Go.ChangeShapes Go.WideShapes Go.ChangeAt Go.RowKit
attribute [local irreducible] Try.prog
theorem cs94:Try.prog.cellsOf 223=2:=by kernel_rfl
theorem cs3:Try.prog.cellsOf 3=1:=by kernel_rfl
theorem op_shape {r:List E} (h:WT Try.prog 2 223 r): ∃p,r=orow p:=by
  simp only [WT,Try.underlying223] at h
  obtain ⟨hl,hf⟩:=h
  have h0:WT Try.prog 1 3 ((r.drop 0).take (Try.prog.cellsOf 3)):=hf 0 _ rfl
  have h1:WT Try.prog 1 2 ((r.drop 1).take (Try.prog.cellsOf 2)):=hf 1 _ rfl
  rw [cs94] at hl
  simp only [WT,cs3,cs2,Try.underlying3,Try.underlying2] at h0 h1
  obtain ⟨b,h0,_⟩:=h0
  obtain ⟨m,h1,_⟩:=h1
  match r,hl with
  | [x,y],_=>
    simp at h0 h1
    exact ⟨(b,m),by rw [h0,h1]⟩
theorem ops_shape: ∀ {rows:List (List E)},(∀r∈rows,WT Try.prog 2 223 r/\r.length=Try.prog.cellsOf 223)-> ∃l:List (Int×Int),rows=l.map orow
  | [],_=>⟨[],rfl⟩
  | r::rows,h=>by
    obtain ⟨p,hp⟩:=op_shape (h r (by simp)).1
    obtain ⟨l,hl⟩:=ops_shape (rows:=rows) fun q hq=>h q (List.mem_cons_of_mem _ hq)
    exact ⟨p::l,by rw [hp,hl];rfl⟩
theorem row_shape {r:List E} (h:WT Try.prog 2 154 r): ∃p,r=vr p:=by
  simp only [WT,Try.underlying154] at h
  obtain ⟨hl,hf⟩:=h
  have h0:WT Try.prog 1 4 ((r.drop 0).take (Try.prog.cellsOf 4)):=hf 0 _ rfl
  have h1:WT Try.prog 1 2 ((r.drop 1).take (Try.prog.cellsOf 2)):=hf 1 _ rfl
  rw [cs24] at hl
  simp only [WT,cs4,cs2,Try.underlying4,Try.underlying2] at h0 h1
  obtain ⟨b,h0⟩:=h0
  obtain ⟨m,h1,_⟩:=h1
  match r,hl with
  | [x,y],_=>
    simp at h0 h1
    exact ⟨(b,m),by rw [h0,h1]⟩
theorem rows_shape: ∀ {rows:List (List E)},(∀r∈rows,WT Try.prog 2 154 r/\r.length=Try.prog.cellsOf 154)-> ∃l:List (Bool×Int),rows=l.map vr
  | [],_=>⟨[],rfl⟩
  | r::rows,h=>by
    obtain ⟨p,hp⟩:=row_shape (h r (by simp)).1
    obtain ⟨l,hl⟩:=rows_shape (rows:=rows) fun q hq=>h q (List.mem_cons_of_mem _ hq)
    exact ⟨p::l,by rw [hp,hl];rfl⟩
end Go.Proofs.Ytfplalbognalkaa.Ab
/- An argument that is a struct. -/
namespace Go.Proofs.Ytfplalbognalkaa.Ab
open Go Go.ChangeShapes Go.WideShapes Go.ChangeAt Go.RowKit
theorem arg_st {H:Type} {enc:TypeId×Value->H} {P:Program} {W:World} {sp:Nat->Bool} {held:Bool} {n:Nat} {t:TypeId} {fs:Array Field} {b0:Nat} {v:Value} {d:DataW H} {ps:List MemPlace} (ht:P.underlying t=some (.struct fs)) (hok:okT P (n+1) t=true) (hv:Value.okWide P W .any b0 t v)
    (h:DataW.Trod enc P W 0 sp held t v d ps) (hw: ∀k∈d.weights P t,k<=reachBytes): ∃es,Rv W (pubAll W) (hpF []) v (.agg (es.map .e))/\WT P (n+1) t es:=by
  obtain ⟨cs,rfl,hs⟩:=okWide_struct ht hv
  obtain ⟨fuel,hf⟩:=h
  obtain ⟨es,w1,l1,r1⟩:=trod_E (n+1) fuel t _ _ hok hf hw
  have l1:es.length=cs.size:=l1
  have r1: ∀(j:Nat) c e,cs[j]?=some c->es[j]?=some e->RvE W (pubAll W) c e:=fun j c e hc he=>r1 j c e (by simpa [Value.cells] using hc) he
  refine ⟨es,.agg (by simp [l1]) (fun j c hc=>?_) (fun j c d hc hd=>?_),w1⟩
  · have hj:j<es.length:=by rw [l1];exact (Array.getElem?_eq_some_iff.1 hc).1
    exact (r1 j c _ hc (List.getElem?_eq_getElem hj)).cell
  · rw [List.getElem?_map] at hd
    cases he:es[j]? with
    | none=>rw [he] at hd;cases hd
    | some e=>
      rw [he] at hd
      cases hd
      exact .e (r1 j c e hc he)
end Go.Proofs.Ytfplalbognalkaa.Ab
/- Arguments that are plans or tables: their shapes. -/
namespace Go.Proofs.Ytfplalbognalkaa.Ab
open Go Go.ChangeShapes Go.WideShapes Go.ChangeAt Go.RowKit
attribute [local irreducible] Try.prog
theorem csStr:Try.prog.cellsOf 9=1:=by kernel_rfl
theorem csOps:Try.prog.cellsOf 166=1:=by kernel_rfl
theorem csOpss:Try.prog.cellsOf 167=1:=by kernel_rfl
theorem csFNode:Try.prog.cellsOf 169=8:=by kernel_rfl
theorem csFNodes:Try.prog.cellsOf 47=1:=by kernel_rfl
theorem csFlat:Try.prog.cellsOf 49=2:=by kernel_rfl
theorem csValss:Try.prog.cellsOf 31=1:=by kernel_rfl
theorem csTable:Try.prog.cellsOf 172=3:=by kernel_rfl
theorem csTables:Try.prog.cellsOf 50=1:=by kernel_rfl
theorem csDb:Try.prog.cellsOf 52=1:=by kernel_rfl
theorem op_shape3 {r:List E} (h:WT Try.prog 3 223 r): ∃p,r=orow p:=by
  simp only [WT,Try.underlying223] at h
  obtain ⟨hl,hf⟩:=h
  have h0:WT Try.prog 2 3 ((r.drop 0).take (Try.prog.cellsOf 3)):=hf 0 _ rfl
  have h1:WT Try.prog 2 2 ((r.drop 1).take (Try.prog.cellsOf 2)):=hf 1 _ rfl
  rw [cs94] at hl
  simp only [WT,cs3,cs2,Try.underlying3,Try.underlying2] at h0 h1
  obtain ⟨b,h0,_⟩:=h0
  obtain ⟨m,h1,_⟩:=h1
  match r,hl with
  | [x,y],_=>
    simp at h0 h1
    exact ⟨(b,m),by rw [h0,h1]⟩
theorem ops_shape3: ∀ {rows:List (List E)},(∀r∈rows,WT Try.prog 3 223 r/\r.length=Try.prog.cellsOf 223)-> ∃l:List (Int×Int),rows=l.map orow
  | [],_=>⟨[],rfl⟩
  | r::rows,h=>by
    obtain ⟨p,hp⟩:=op_shape3 (h r (by simp)).1
    obtain ⟨l,hl⟩:=ops_shape3 (rows:=rows) fun q hq=>h q (List.mem_cons_of_mem _ hq)
    exact ⟨p::l,by rw [hp,hl];rfl⟩
theorem orr_shape {r:List E} (h:WT Try.prog 3 166 r): ∃p,r=orr p:=by
  simp only [WT,Try.underlying166] at h
  obtain ⟨rows,rfl,_,h⟩:=h
  obtain ⟨l,rfl⟩:=ops_shape h
  exact ⟨l,rfl⟩
theorem orrs_shape: ∀ {rows:List (List E)},(∀r∈rows,WT Try.prog 3 166 r/\r.length=Try.prog.cellsOf 166)-> ∃l:List (List (Int×Int)),rows=l.map orr
  | [],_=>⟨[],rfl⟩
  | r::rows,h=>by
    obtain ⟨p,hp⟩:=orr_shape (h r (by simp)).1
    obtain ⟨l,hl⟩:=orrs_shape (rows:=rows) fun q hq=>h q (List.mem_cons_of_mem _ hq)
    exact ⟨p::l,by rw [hp,hl];rfl⟩
theorem fnode_shape {r:List E} (h:WT Try.prog 5 169 r): ∃d,r=fdr d:=by
  simp only [WT,Try.underlying169] at h
  obtain ⟨hl,hf⟩:=h
  have h0:WT Try.prog 4 3 ((r.drop 0).take (Try.prog.cellsOf 3)):=hf 0 _ rfl
  have h1:WT Try.prog 4 3 ((r.drop 1).take (Try.prog.cellsOf 3)):=hf 1 _ rfl
  have h2:WT Try.prog 4 3 ((r.drop 2).take (Try.prog.cellsOf 3)):=hf 2 _ rfl
  have h3:WT Try.prog 4 3 ((r.drop 3).take (Try.prog.cellsOf 3)):=hf 3 _ rfl
  have h4:WT Try.prog 4 166 ((r.drop 4).take (Try.prog.cellsOf 166)):=hf 4 _ rfl
  have h5:WT Try.prog 4 167 ((r.drop 5).take (Try.prog.cellsOf 167)):=hf 5 _ rfl
  have h6:WT Try.prog 4 3 ((r.drop 6).take (Try.prog.cellsOf 3)):=hf 6 _ rfl
  have h7:WT Try.prog 4 3 ((r.drop 7).take (Try.prog.cellsOf 3)):=hf 7 _ rfl
  rw [csFNode] at hl
  rw [csOps] at h4
  rw [csOpss] at h5
  simp only [WT,cs3,Try.underlying3] at h0 h1 h2 h3 h6 h7
  simp only [WT,Try.underlying166] at h4
  simp only [WT,Try.underlying167] at h5
  obtain ⟨K,h0,_⟩:=h0
  obtain ⟨T,h1,_⟩:=h1
  obtain ⟨M,h2,_⟩:=h2
  obtain ⟨W,h3,_⟩:=h3
  obtain ⟨rs4,h4,_,g4⟩:=h4
  obtain ⟨rs5,h5,_,g5⟩:=h5
  obtain ⟨L,h6,_⟩:=h6
  obtain ⟨R,h7,_⟩:=h7
  obtain ⟨Ex,rfl⟩:=ops_shape3 g4
  obtain ⟨Exs,rfl⟩:=orrs_shape g5
  match r,hl with
  | [a,b,c,d,e,f,g,i],_=>
    simp at h0 h1 h2 h3 h4 h5 h6 h7
    exact ⟨⟨K,T,M,W,Ex,Exs,L,R⟩,by rw [h0,h1,h2,h3,h4,h5,h6,h7]⟩
theorem fnodes_shape: ∀ {rows:List (List E)},(∀r∈rows,WT Try.prog 5 169 r/\r.length=Try.prog.cellsOf 169)-> ∃l:List Fd,rows=l.map fdr
  | [],_=>⟨[],rfl⟩
  | r::rows,h=>by
    obtain ⟨p,hp⟩:=fnode_shape (h r (by simp)).1
    obtain ⟨l,hl⟩:=fnodes_shape (rows:=rows) fun q hq=>h q (List.mem_cons_of_mem _ hq)
    exact ⟨p::l,by rw [hp,hl];rfl⟩
theorem flat_shape {r:List E} (h:WT Try.prog 7 49 r): ∃(l:List Fd) (rt:Int),r= [.sl (l.map fdr),.int rt]:=by
  simp only [WT,Try.underlying49] at h
  obtain ⟨hl,hf⟩:=h
  have h0:WT Try.prog 6 47 ((r.drop 0).take (Try.prog.cellsOf 47)):=hf 0 _ rfl
  have h1:WT Try.prog 6 3 ((r.drop 1).take (Try.prog.cellsOf 3)):=hf 1 _ rfl
  rw [csFlat] at hl
  rw [csFNodes] at h0
  simp only [WT,Try.underlying47] at h0
  simp only [WT,cs3,Try.underlying3] at h1
  obtain ⟨rows,h0,_,h3⟩:=h0
  obtain ⟨rt,h1,_⟩:=h1
  obtain ⟨l,rfl⟩:=fnodes_shape h3
  match r,hl with
  | [x,y],_=>
    simp at h0 h1
    exact ⟨l,rt,by rw [h0,h1]⟩
theorem srow_shape {r:List E} (h:WT Try.prog 3 96 r): ∃p,r=rsr p:=by
  simp only [WT,Try.underlying96] at h
  obtain ⟨rows,rfl,_,h⟩:=h
  obtain ⟨l,rfl⟩:=rows_shape h
  exact ⟨l,rfl⟩
theorem srows_shape: ∀ {rows:List (List E)},(∀r∈rows,WT Try.prog 3 96 r/\r.length=Try.prog.cellsOf 96)-> ∃l:List (List (Bool×Int)),rows=l.map rsr
  | [],_=>⟨[],rfl⟩
  | r::rows,h=>by
    obtain ⟨p,hp⟩:=srow_shape (h r (by simp)).1
    obtain ⟨l,hl⟩:=srows_shape (rows:=rows) fun q hq=>h q (List.mem_cons_of_mem _ hq)
    exact ⟨p::l,by rw [hp,hl];rfl⟩
theorem tab_shape {r:List E} (h:WT Try.prog 5 172 r): ∃p,r=tbr p:=by
  simp only [WT,Try.underlying172] at h
  obtain ⟨hl,hf⟩:=h
  have h0:WT Try.prog 4 9 ((r.drop 0).take (Try.prog.cellsOf 9)):=hf 0 _ rfl
  have h1:WT Try.prog 4 3 ((r.drop 1).take (Try.prog.cellsOf 3)):=hf 1 _ rfl
  have h2:WT Try.prog 4 31 ((r.drop 2).take (Try.prog.cellsOf 31)):=hf 2 _ rfl
  rw [csTable] at hl
  rw [csValss] at h2
  simp only [WT,csStr,cs3,Try.underlying9,Try.underlying3] at h0 h1
  simp only [WT,Try.underlying31] at h2
  obtain ⟨s,h0,_⟩:=h0
  obtain ⟨m,h1,_⟩:=h1
  obtain ⟨rows,h2,_,h3⟩:=h2
  obtain ⟨l,rfl⟩:=srows_shape h3
  match r,hl with
  | [x,y,z],_=>
    simp at h0 h1 h2
    exact ⟨(s.data.toList,m,l),by rw [h0,h1,h2]⟩
theorem tabs_shape: ∀ {rows:List (List E)},(∀r∈rows,WT Try.prog 5 172 r/\r.length=Try.prog.cellsOf 172)-> ∃l:List Tb,rows=l.map tbr
  | [],_=>⟨[],rfl⟩
  | r::rows,h=>by
    obtain ⟨p,hp⟩:=tab_shape (h r (by simp)).1
    obtain ⟨l,hl⟩:=tabs_shape (rows:=rows) fun q hq=>h q (List.mem_cons_of_mem _ hq)
    exact ⟨p::l,by rw [hp,hl];rfl⟩
theorem db_shape {r:List E} (h:WT Try.prog 7 52 r): ∃l:List Tb,r= [.sl (l.map tbr)]:=by
  simp only [WT,Try.underlying52] at h
  obtain ⟨hl,hf⟩:=h
  have h0:WT Try.prog 6 50 ((r.drop 0).take (Try.prog.cellsOf 50)):=hf 0 _ rfl
  rw [csDb] at hl
  simp only [WT,Try.underlying50] at h0
  obtain ⟨rows,h0,_,h3⟩:=h0
  obtain ⟨l,rfl⟩:=tabs_shape h3
  match r,hl with
  | [x],_=>
    rw [csTables] at h0
    simp at h0
    exact ⟨l,by rw [h0]⟩
end Go.Proofs.Ytfplalbognalkaa.Ab
