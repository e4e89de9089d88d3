/- Shapes of arguments. -/
import Derived.Test.YtfplalbognalkaaGreatMFnExactUnnest8
set_option linter.unusedSimpArgs false
set_option linter.unusedVariables false
set_option linter.unnecessarySimpa false
set_option linter.constructorNameAsVariable false
set_option maxRecDepth 100000
set_option maxHeartbeats 16000000
namespace Go.Proofs.YtfplalbognalkaaGreat.Ab
open Go Go.ChangeShapes Go.WideShapes Go.ChangeAt Go.RowKit
attribute [local irreducible] Tryz.prog
theorem cs94:Tryz.prog.cellsOf 252=2:=by kernel_rfl
theorem cs3:Tryz.prog.cellsOf 3=1:=by kernel_rfl
theorem op_shape {r:List E} (h:WT Tryz.prog 2 252 r): ∃p,r=orow p:=by
 simp only [WT,Tryz.underlying252] at h
 obtain ⟨hl,hf⟩:=h
 have h0:WT Tryz.prog 1 3 ((r.drop 0).take (Tryz.prog.cellsOf 3)):=hf 0 _ rfl
 have h1:WT Tryz.prog 1 2 ((r.drop 1).take (Tryz.prog.cellsOf 2)):=hf 1 _ rfl
 rw [cs94] at hl
 simp only [WT,cs3,cs2,Tryz.underlying3,Tryz.underlying2] at h0 h1
 obtain ⟨b,h0,_⟩:=h0
 obtain ⟨m,h1,_⟩:=h1
 match r,hl with
 | [x,y],_=>
  simp at h0 h1
  exact ⟨(b,m),by rw [h0,h1]⟩
theorem ops_shape: ∀ {rows:List (List E)},(∀r∈rows,WT Tryz.prog 2 252 r/\r.length=Tryz.prog.cellsOf 252)-> ∃l:List (Int×Int),rows=l.map orow
 | [],_=>⟨[],rfl⟩
 | r::rows,h=>by
  obtain ⟨p,hp⟩:=op_shape (h r (by simp)).1
  obtain ⟨l,hl⟩:=ops_shape (rows:=rows) fun q hq=>h q (List.mem_cons_of_mem _ hq)
  exact ⟨p::l,by rw [hp,hl];rfl⟩
theorem row_shape {r:List E} (h:WT Tryz.prog 2 286 r): ∃p,r=vr p:=by
 simp only [WT,Tryz.underlying286] at h
 obtain ⟨hl,hf⟩:=h
 have h0:WT Tryz.prog 1 4 ((r.drop 0).take (Tryz.prog.cellsOf 4)):=hf 0 _ rfl
 have h1:WT Tryz.prog 1 2 ((r.drop 1).take (Tryz.prog.cellsOf 2)):=hf 1 _ rfl
 rw [cs24] at hl
 simp only [WT,cs4,cs2,Tryz.underlying4,Tryz.underlying2] at h0 h1
 obtain ⟨b,h0⟩:=h0
 obtain ⟨m,h1,_⟩:=h1
 match r,hl with
 | [x,y],_=>
  simp at h0 h1
  exact ⟨(b,m),by rw [h0,h1]⟩
theorem rows_shape: ∀ {rows:List (List E)},(∀r∈rows,WT Tryz.prog 2 286 r/\r.length=Tryz.prog.cellsOf 286)-> ∃l:List (Bool×Int),rows=l.map vr
 | [],_=>⟨[],rfl⟩
 | r::rows,h=>by
  obtain ⟨p,hp⟩:=row_shape (h r (by simp)).1
  obtain ⟨l,hl⟩:=rows_shape (rows:=rows) fun q hq=>h q (List.mem_cons_of_mem _ hq)
  exact ⟨p::l,by rw [hp,hl];rfl⟩
end Go.Proofs.YtfplalbognalkaaGreat.Ab
/- An argument that is a struct. -/
namespace Go.Proofs.YtfplalbognalkaaGreat.Ab
open Go Go.ChangeShapes Go.WideShapes Go.ChangeAt Go.RowKit
theorem arg_st {H:Type} {enc:TypeId×Value->H} {P:Program} {W:World} {sp:Nat->Bool} {held:Bool} {n:Nat} {t:TypeId} {fs:Array Field} {b0:Nat} {v:Value} {d:DataW H} {ps:List MemPlace} (ht:P.underlying t=some (.struct fs)) (hok:okT P (n+1) t=true) (hv:Value.okWide P W .any b0 t v)
  (h:DataW.Trod enc P W 0 sp held t v d ps) (hw: ∀k∈d.weights P t,k<=reachBytes): ∃es,Rv W (pubAll W) (hpF []) v (.agg (es.map .e))/\WT P (n+1) t es:=by
 obtain ⟨cs,rfl,hs⟩:=okWide_struct ht hv
 obtain ⟨fuel,hf⟩:=h
 obtain ⟨es,w1,l1,r1⟩:=trod_E (n+1) fuel t _ _ hok hf hw
 have l1:es.length=cs.size:=l1
 have r1: ∀(j:Nat) c e,cs[j]?=some c->es[j]?=some e->RvE W (pubAll W) c e:=fun j c e hc he=>r1 j c e (by simpa [Value.cells] using hc) he
 refine ⟨es,.agg (by simp [l1]) (fun j c hc=>?_) (fun j c d hc hd=>?_),w1⟩
 ·have hj:j<es.length:=by rw [l1];exact (Array.getElem?_eq_some_iff.1 hc).1
  exact (r1 j c _ hc (List.getElem?_eq_getElem hj)).cell
 ·rw [List.getElem?_map] at hd
  cases he:es[j]? with
  | none=>rw [he] at hd;cases hd
  | some e=>
   rw [he] at hd
   cases hd
   exact .e (r1 j c e hc he)
end Go.Proofs.YtfplalbognalkaaGreat.Ab
/- Arguments that are plans or tables: their shapes. -/
namespace Go.Proofs.YtfplalbognalkaaGreat.Ab
open Go Go.ChangeShapes Go.WideShapes Go.ChangeAt Go.RowKit
attribute [local irreducible] Tryz.prog
theorem csStr:Tryz.prog.cellsOf 9=1:=by kernel_rfl
theorem csOps:Tryz.prog.cellsOf 123=1:=by kernel_rfl
theorem csOpss:Tryz.prog.cellsOf 124=1:=by kernel_rfl
theorem csValss:Tryz.prog.cellsOf 128=1:=by kernel_rfl
theorem csTable:Tryz.prog.cellsOf 130=3:=by kernel_rfl
theorem csTables:Tryz.prog.cellsOf 25=1:=by kernel_rfl
theorem csDb:Tryz.prog.cellsOf 27=1:=by kernel_rfl
theorem op_shape3 {r:List E} (h:WT Tryz.prog 3 252 r): ∃p,r=orow p:=by
 simp only [WT,Tryz.underlying252] at h
 obtain ⟨hl,hf⟩:=h
 have h0:WT Tryz.prog 2 3 ((r.drop 0).take (Tryz.prog.cellsOf 3)):=hf 0 _ rfl
 have h1:WT Tryz.prog 2 2 ((r.drop 1).take (Tryz.prog.cellsOf 2)):=hf 1 _ rfl
 rw [cs94] at hl
 simp only [WT,cs3,cs2,Tryz.underlying3,Tryz.underlying2] at h0 h1
 obtain ⟨b,h0,_⟩:=h0
 obtain ⟨m,h1,_⟩:=h1
 match r,hl with
 | [x,y],_=>
  simp at h0 h1
  exact ⟨(b,m),by rw [h0,h1]⟩
theorem ops_shape3: ∀ {rows:List (List E)},(∀r∈rows,WT Tryz.prog 3 252 r/\r.length=Tryz.prog.cellsOf 252)-> ∃l:List (Int×Int),rows=l.map orow
 | [],_=>⟨[],rfl⟩
 | r::rows,h=>by
  obtain ⟨p,hp⟩:=op_shape3 (h r (by simp)).1
  obtain ⟨l,hl⟩:=ops_shape3 (rows:=rows) fun q hq=>h q (List.mem_cons_of_mem _ hq)
  exact ⟨p::l,by rw [hp,hl];rfl⟩
theorem orr_shape {r:List E} (h:WT Tryz.prog 3 123 r): ∃p,r=orr p:=by
 simp only [WT,Tryz.underlying123] at h
 obtain ⟨rows,rfl,_,h⟩:=h
 obtain ⟨l,rfl⟩:=ops_shape h
 exact ⟨l,rfl⟩
theorem orrs_shape: ∀ {rows:List (List E)},(∀r∈rows,WT Tryz.prog 3 123 r/\r.length=Tryz.prog.cellsOf 123)-> ∃l:List (List (Int×Int)),rows=l.map orr
 | [],_=>⟨[],rfl⟩
 | r::rows,h=>by
  obtain ⟨p,hp⟩:=orr_shape (h r (by simp)).1
  obtain ⟨l,hl⟩:=orrs_shape (rows:=rows) fun q hq=>h q (List.mem_cons_of_mem _ hq)
  exact ⟨p::l,by rw [hp,hl];rfl⟩
theorem srow_shape {r:List E} (h:WT Tryz.prog 3 249 r): ∃p,r=rsr p:=by
 simp only [WT,Tryz.underlying249] at h
 obtain ⟨rows,rfl,_,h⟩:=h
 obtain ⟨l,rfl⟩:=rows_shape h
 exact ⟨l,rfl⟩
theorem srows_shape: ∀ {rows:List (List E)},(∀r∈rows,WT Tryz.prog 3 249 r/\r.length=Tryz.prog.cellsOf 249)-> ∃l:List (List (Bool×Int)),rows=l.map rsr
 | [],_=>⟨[],rfl⟩
 | r::rows,h=>by
  obtain ⟨p,hp⟩:=srow_shape (h r (by simp)).1
  obtain ⟨l,hl⟩:=srows_shape (rows:=rows) fun q hq=>h q (List.mem_cons_of_mem _ hq)
  exact ⟨p::l,by rw [hp,hl];rfl⟩
theorem tab_shape {r:List E} (h:WT Tryz.prog 5 130 r): ∃p,r=tbr p:=by
 simp only [WT,Tryz.underlying130] at h
 obtain ⟨hl,hf⟩:=h
 have h0:WT Tryz.prog 4 9 ((r.drop 0).take (Tryz.prog.cellsOf 9)):=hf 0 _ rfl
 have h1:WT Tryz.prog 4 3 ((r.drop 1).take (Tryz.prog.cellsOf 3)):=hf 1 _ rfl
 have h2:WT Tryz.prog 4 128 ((r.drop 2).take (Tryz.prog.cellsOf 128)):=hf 2 _ rfl
 rw [csTable] at hl
 rw [csValss] at h2
 simp only [WT,csStr,cs3,Tryz.underlying9,Tryz.underlying3] at h0 h1
 simp only [WT,Tryz.underlying128] at h2
 obtain ⟨s,h0,_⟩:=h0
 obtain ⟨m,h1,_⟩:=h1
 obtain ⟨rows,h2,_,h3⟩:=h2
 obtain ⟨l,rfl⟩:=srows_shape h3
 match r,hl with
 | [x,y,z],_=>
  simp at h0 h1 h2
  exact ⟨(s.data.toList,m,l),by rw [h0,h1,h2]⟩
theorem tabs_shape: ∀ {rows:List (List E)},(∀r∈rows,WT Tryz.prog 5 130 r/\r.length=Tryz.prog.cellsOf 130)-> ∃l:List Tb,rows=l.map tbr
 | [],_=>⟨[],rfl⟩
 | r::rows,h=>by
  obtain ⟨p,hp⟩:=tab_shape (h r (by simp)).1
  obtain ⟨l,hl⟩:=tabs_shape (rows:=rows) fun q hq=>h q (List.mem_cons_of_mem _ hq)
  exact ⟨p::l,by rw [hp,hl];rfl⟩
theorem db_shape {r:List E} (h:WT Tryz.prog 7 27 r): ∃l:List Tb,r= [.sl (l.map tbr)]:=by
 simp only [WT,Tryz.underlying27] at h
 obtain ⟨hl,hf⟩:=h
 have h0:WT Tryz.prog 6 25 ((r.drop 0).take (Tryz.prog.cellsOf 25)):=hf 0 _ rfl
 rw [csDb] at hl
 simp only [WT,Tryz.underlying25] at h0
 obtain ⟨rows,h0,_,h3⟩:=h0
 obtain ⟨l,rfl⟩:=tabs_shape h3
 match r,hl with
 | [x],_=>
  rw [csTables] at h0
  simp at h0
  exact ⟨l,by rw [h0]⟩
end Go.Proofs.YtfplalbognalkaaGreat.Ab
/- Arguments that are plans: their shapes. -/
namespace Go.Proofs.YtfplalbognalkaaGreat.Ab
open Go Go.ChangeShapes Go.WideShapes Go.ChangeAt Go.RowKit
attribute [local irreducible] Tryz.prog
theorem csPNode:Tryz.prog.cellsOf 126=7:=by kernel_rfl
theorem csPNodes:Tryz.prog.cellsOf 22=1:=by kernel_rfl
theorem csPlan:Tryz.prog.cellsOf 24=1:=by kernel_rfl
theorem pnode_shape {r:List E} (h:WT Tryz.prog 5 126 r): ∃d,r=pdr d:=by
 simp only [WT,Tryz.underlying126] at h
 obtain ⟨hl,hf⟩:=h
 have h0:WT Tryz.prog 4 3 ((r.drop 0).take (Tryz.prog.cellsOf 3)):=hf 0 _ rfl
 have h1:WT Tryz.prog 4 3 ((r.drop 1).take (Tryz.prog.cellsOf 3)):=hf 1 _ rfl
 have h2:WT Tryz.prog 4 3 ((r.drop 2).take (Tryz.prog.cellsOf 3)):=hf 2 _ rfl
 have h4:WT Tryz.prog 4 123 ((r.drop 3).take (Tryz.prog.cellsOf 123)):=hf 3 _ rfl
 have h5:WT Tryz.prog 4 124 ((r.drop 4).take (Tryz.prog.cellsOf 124)):=hf 4 _ rfl
 have h6:WT Tryz.prog 4 3 ((r.drop 5).take (Tryz.prog.cellsOf 3)):=hf 5 _ rfl
 have h7:WT Tryz.prog 4 3 ((r.drop 6).take (Tryz.prog.cellsOf 3)):=hf 6 _ rfl
 rw [csPNode] at hl
 rw [csOps] at h4
 rw [csOpss] at h5
 simp only [WT,cs3,Tryz.underlying3] at h0 h1 h2 h6 h7
 simp only [WT,Tryz.underlying123] at h4
 simp only [WT,Tryz.underlying124] at h5
 obtain ⟨K,h0,_⟩:=h0
 obtain ⟨T,h1,_⟩:=h1
 obtain ⟨M,h2,_⟩:=h2
 obtain ⟨rs4,h4,_,g4⟩:=h4
 obtain ⟨rs5,h5,_,g5⟩:=h5
 obtain ⟨L,h6,_⟩:=h6
 obtain ⟨R,h7,_⟩:=h7
 obtain ⟨Ex,rfl⟩:=ops_shape3 g4
 obtain ⟨Exs,rfl⟩:=orrs_shape g5
 match r,hl with
 | [a,b,c,e,f,g,i],_=>
  simp at h0 h1 h2 h4 h5 h6 h7
  exact ⟨⟨K,T,M,Ex,Exs,L,R⟩,by rw [h0,h1,h2,h4,h5,h6,h7]⟩
theorem pnodes_shape: ∀ {rows:List (List E)},(∀r∈rows,WT Tryz.prog 5 126 r/\r.length=Tryz.prog.cellsOf 126)-> ∃l:List Pd,rows=l.map pdr
 | [],_=>⟨[],rfl⟩
 | r::rows,h=>by
  obtain ⟨p,hp⟩:=pnode_shape (h r (by simp)).1
  obtain ⟨l,hl⟩:=pnodes_shape (rows:=rows) fun q hq=>h q (List.mem_cons_of_mem _ hq)
  exact ⟨p::l,by rw [hp,hl];rfl⟩
theorem plan_shape {r:List E} (h:WT Tryz.prog 7 24 r): ∃l:List Pd,r= [.sl (l.map pdr)]:=by
 simp only [WT,Tryz.underlying24] at h
 obtain ⟨hl,hf⟩:=h
 have h0:WT Tryz.prog 6 22 ((r.drop 0).take (Tryz.prog.cellsOf 22)):=hf 0 _ rfl
 rw [csPlan] at hl
 simp only [WT,Tryz.underlying22] at h0
 obtain ⟨rows,h0,_,h3⟩:=h0
 obtain ⟨l,rfl⟩:=pnodes_shape h3
 match r,hl with
 | [x],_=>
  rw [csPNodes] at h0
  simp at h0
  exact ⟨l,by rw [h0]⟩
end Go.Proofs.YtfplalbognalkaaGreat.Ab
