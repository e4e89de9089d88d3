/- Plans: the operator of a node, by the program. -/
import Derived.Test.YtfplalbognalkaaGreatMFnExactUnnest3
set_option linter.unusedSimpArgs false
set_option linter.unusedVariables false
set_option linter.unnecessarySimpa false
set_option linter.constructorNameAsVariable false
set_option maxRecDepth 100000
set_option maxHeartbeats 16000000
namespace Go.Proofs.YtfplalbognalkaaGreat.Ab
open Go
def optE:Option Ot->E
 | none=> .v .nilIface
 | some o=>o.E
theorem ok323_1 (T M:Int) (Ex:List (Int×Int)) (Exs:List (List (Int×Int))) (L R:Int) (x y es xt xst:List (List E)) (hx:x=Ex.map orow) (hy:y=Exs.map orr) (ts:List Tb) (hxt:xt=ts.map tbr) (hxl:x.length<=1048576) (hyl:y.length<=1048576) (hel: ∀e∈Exs,e.length<=1048576) (env:Int) (he:0<=env/\env<=400) (l:Ot) (e1:E) (r:Ot) (e2:E):
  Plain Tryz.prog 164 [.agg [.e (.sl es),.e (.sl xt),.e (.sl xst)],.agg [.int 1,.int T,.int M,.e (.sl x),.e (.sl y),.int L,.int R],.int env,.e (e1),.e (e2)] (.e (optE (ndO ⟨1,T,M,Ex,Exs,L,R⟩ ts env l r))):=okOf mixed p164 fun A P hA hP=>(by
 obtain ⟨res,hres⟩: ∃e,e=optE (ndO ⟨1,T,M,Ex,Exs,L,R⟩ ts env l r):=⟨_,rfl⟩
 rw [<-hres]
 have k1:A.eq 1 1=true:=hA.eq _ _
 have k2:A.eq 1 2=false:=hA.eq _ _
 have k3:A.eq 1 3=false:=hA.eq _ _
 have k4:A.eq 1 4=false:=hA.eq _ _
 have k5:A.eq 1 5=false:=hA.eq _ _
 have k6:A.eq 1 6=false:=hA.eq _ _
 have k7:A.eq 1 7=false:=hA.eq _ _
 have k8:A.eq 1 8=false:=hA.eq _ _
 have k9:A.eq 1 9=false:=hA.eq _ _
 have k10:A.eq 1 10=false:=hA.eq _ _
 have hres:res= .ia 255 []:=by
  rw [hres,ndO]
  simp only [Int.reduceEq,if_true,if_false,optE,Ot.E,decide_true,decide_false,Int.reduceEq,true_and,false_and,and_true,or_true,true_or,or_false,false_or,Bool.false_eq_true]
 cbv
 repeat' first | exact W1 | (simp only [k1,k2,k3,k4,k5,k6,k7,k8,k9,k10];cbv) | refine WA ?_ ?_ | with_reducible intro hcc | refine WS ?_ | refine W6 ?_ | ((with_reducible first | refine hA.Len fun z hz hb=>?_ | refine hA.Off fun b hb=>?_ | refine hA.Plus fun b hb=>?_ | refine hA.gb _ _ fun vb hvb=>?_);cbv) | ((with_reducible first | refine hA.Sapp ?_ fun sl hsl=>?_);rotate_left;cbv) | refine WL ?_ | fail
 all_goals try simp only [hA.sm,n_cast] at *
 all_goals first | omega | rfl | trivial | exact gg1 _ | exact gg2 _ | exact gg3 _ | exact gg4 _ | exact gg5 _ | (rw [hres];done))
theorem ok323_2 (T M:Int) (Ex:List (Int×Int)) (Exs:List (List (Int×Int))) (L R:Int) (x y es xt xst:List (List E)) (hx:x=Ex.map orow) (hy:y=Exs.map orr) (ts:List Tb) (hxt:xt=ts.map tbr) (hxl:x.length<=1048576) (hyl:y.length<=1048576) (hel: ∀e∈Exs,e.length<=1048576) (env:Int) (he:0<=env/\env<=400) (l:Ot) (e1:E) (r:Ot) (e2:E):
  Plain Tryz.prog 164 [.agg [.e (.sl es),.e (.sl xt),.e (.sl xst)],.agg [.int 2,.int T,.int M,.e (.sl x),.e (.sl y),.int L,.int R],.int env,.e (e1),.e (e2)] (.e (optE (ndO ⟨2,T,M,Ex,Exs,L,R⟩ ts env l r))):=okOf mixed p164 fun A P hA hP=>(by
 obtain ⟨res,hres⟩: ∃e,e=optE (ndO ⟨2,T,M,Ex,Exs,L,R⟩ ts env l r):=⟨_,rfl⟩
 rw [<-hres]
 have k1:A.eq 2 1=false:=hA.eq _ _
 have k2:A.eq 2 2=true:=hA.eq _ _
 have k3:A.eq 2 3=false:=hA.eq _ _
 have k4:A.eq 2 4=false:=hA.eq _ _
 have k5:A.eq 2 5=false:=hA.eq _ _
 have k6:A.eq 2 6=false:=hA.eq _ _
 have k7:A.eq 2 7=false:=hA.eq _ _
 have k8:A.eq 2 8=false:=hA.eq _ _
 have k9:A.eq 2 9=false:=hA.eq _ _
 have k10:A.eq 2 10=false:=hA.eq _ _
 obtain ⟨zt,hzt⟩: ∃z:Int,z=xt.length:=⟨_,rfl⟩
 have hxT:xt.length=ts.length:=by rw [hxt];simp
 have hres:res=if T<0\/zt<=T then .v .nilIface else .ia 257 (tbr (ts.getD T.toNat ([],0, []))):=by
  rw [hres,ndO]
  simp only [Int.reduceEq,if_true,if_false,hzt,hxT,true_and,false_and,and_true,or_true,true_or,or_false,false_or,Bool.false_eq_true]
  split <;>simp [optE,Ot.E]
 by_cases h1:T<0
 ·have v1:A.lt T 0=true:=by rw [hA.lt];exact decide_eq_true h1
  rw [if_pos (.inl h1)] at hres
  cbv
  repeat' first | exact W1 | (simp only [k1,k2,k3,k4,k5,k6,k7,k8,k9,k10,v1];cbv) | refine WA ?_ ?_ | with_reducible intro hcc | refine WS ?_ | (refine hA.LenE hzt fun hb=>?_;cbv) | refine W6 ?_ | ((with_reducible first | refine hA.Len fun z hz hb=>?_ | refine hA.Off fun b hb=>?_ | refine hA.Plus fun b hb=>?_ | refine hA.gb _ _ fun vb hvb=>?_);cbv) | ((with_reducible first | refine hA.Sapp ?_ fun sl hsl=>?_);rotate_left;cbv) | refine WL ?_ | fail
  all_goals try simp only [hA.sm,n_cast] at *
  all_goals first | omega | rfl | trivial | exact gg1 _ | exact gg2 _ | exact gg3 _ | exact gg4 _ | exact gg5 _ | (rw [hres];done)
 have v1:A.lt T 0=false:=by rw [hA.lt];exact decide_eq_false h1
 by_cases h2:zt<=T
 ·have v2:A.le zt T=true:=by rw [hA.le];exact decide_eq_true h2
  rw [if_pos (.inr h2)] at hres
  cbv
  repeat' first | exact W1 | (simp only [k1,k2,k3,k4,k5,k6,k7,k8,k9,k10,v1,v2];cbv) | refine WA ?_ ?_ | with_reducible intro hcc | refine WS ?_ | (refine hA.LenE hzt fun hb=>?_;cbv) | refine W6 ?_ | ((with_reducible first | refine hA.Len fun z hz hb=>?_ | refine hA.Off fun b hb=>?_ | refine hA.Plus fun b hb=>?_ | refine hA.gb _ _ fun vb hvb=>?_);cbv) | ((with_reducible first | refine hA.Sapp ?_ fun sl hsl=>?_);rotate_left;cbv) | refine WL ?_ | fail
  all_goals try simp only [hA.sm,n_cast] at *
  all_goals first | omega | rfl | trivial | exact gg1 _ | exact gg2 _ | exact gg3 _ | exact gg4 _ | exact gg5 _ | (rw [hres];done)
 have v2:A.le zt T=false:=by rw [hA.le];exact decide_eq_false h2
 have hT:(0:Int)<=T/\T<xt.length:=by omega
 obtain ⟨p,q1,q2⟩:=row_at hxt hT
 rw [if_neg (by omega),show ts.getD T.toNat ([],0, [])=p by simp [List.getD,q2]] at hres
 obtain ⟨⟨ps,pc,pr⟩,hp⟩: ∃q,q=p:=⟨_,rfl⟩
 rw [<-hp] at q1 hres
 obtain ⟨px,hpx⟩: ∃s,s=pr.map rsr:=⟨_,rfl⟩
 have q3:xt.getD T.toNat []= [E.str ps,E.int pc,E.sl px]:=by rw [q1,hpx]
 have hres:res= .ia 257 [E.str ps,E.int pc,E.sl px]:=by rw [hres,hpx]
 cbv
 repeat' first | exact W1 | (simp only [k1,k2,k3,k4,k5,k6,k7,k8,k9,k10,v1,v2];cbv) | refine WA ?_ ?_ | with_reducible intro hcc | refine WS ?_ | (refine hA.LenE hzt fun hb=>?_;cbv) | (refine hA.RowE hT q3 ?_;cbv) | refine W6 ?_ | ((with_reducible first | refine hA.Len fun z hz hb=>?_ | refine hA.Off fun b hb=>?_ | refine hA.Plus fun b hb=>?_ | refine hA.gb _ _ fun vb hvb=>?_);cbv) | ((with_reducible first | refine hA.Sapp ?_ fun sl hsl=>?_);rotate_left;cbv) | refine WL ?_ | fail
 all_goals try simp only [hA.sm,n_cast] at *
 all_goals first | omega | rfl | trivial | exact gg1 _ | exact gg2 _ | exact gg3 _ | exact gg4 _ | exact gg5 _ | (rw [hres];done))
theorem ok323_3 (T M:Int) (Ex:List (Int×Int)) (Exs:List (List (Int×Int))) (L R:Int) (x y es xt xst:List (List E)) (hx:x=Ex.map orow) (hy:y=Exs.map orr) (ts:List Tb) (hxt:xt=ts.map tbr) (hxl:x.length<=1048576) (hyl:y.length<=1048576) (hel: ∀e∈Exs,e.length<=1048576) (env:Int) (he:0<=env/\env<=400) (l:Ot) (T1:TypeId) (c1:List E) (w1:Int) (hlE:l.E= .ia T1 c1) (hlw:l.w=w1) (h1:Wid T1 c1 w1) (hw1:0<=w1/\w1<=200) (r:Ot) (e2:E):
  Plain Tryz.prog 164 [.agg [.e (.sl es),.e (.sl xt),.e (.sl xst)],.agg [.int 3,.int T,.int M,.e (.sl x),.e (.sl y),.int L,.int R],.int env,.e (E.ia T1 c1),.e (e2)] (.e (optE (ndO ⟨3,T,M,Ex,Exs,L,R⟩ ts env l r))):=okOf mixed p164 fun A P hA hP=>(by
 obtain ⟨res,hres⟩: ∃e,e=optE (ndO ⟨3,T,M,Ex,Exs,L,R⟩ ts env l r):=⟨_,rfl⟩
 rw [<-hres]
 have k1:A.eq 3 1=false:=hA.eq _ _
 have k2:A.eq 3 2=false:=hA.eq _ _
 have k3:A.eq 3 3=true:=hA.eq _ _
 have k4:A.eq 3 4=false:=hA.eq _ _
 have k5:A.eq 3 5=false:=hA.eq _ _
 have k6:A.eq 3 6=false:=hA.eq _ _
 have k7:A.eq 3 7=false:=hA.eq _ _
 have k8:A.eq 3 8=false:=hA.eq _ _
 have k9:A.eq 3 9=false:=hA.eq _ _
 have k10:A.eq 3 10=false:=hA.eq _ _
 obtain ⟨⟨fn1,d1,hd1,hfr1,hm1,hp1⟩⟩:=h1
 have hm1:MRow P T1 "loop.example/s0035/impl.width" fn1:=hP▸hm1
 obtain ⟨s1,hs1⟩: ∃z,z=A.add env w1:=⟨_,rfl⟩
 have hs1':s1=env+w1:=by rw [hs1,hA.add]
 have h33:=ok216 Ex x hx hxl s1
 obtain ⟨ex,hex⟩: ∃b,b=exOk Ex s1:=⟨_,rfl⟩
 rw [<-hex] at h33
 rw [hs1'] at hex
 have hres:res=if ex=true then .ia 259 [.sl x,.ia T1 c1] else .v .nilIface:=by
  rw [hres,ndO]
  simp only [Int.reduceEq,if_true,if_false,hlw,<-hex,true_and,false_and,and_true,or_true,true_or,or_false,false_or,Bool.false_eq_true]
  split <;>simp only [optE,Ot.E,<-hx,hlE,]
 cases ex
 ·rw [if_neg (by simp)] at hres
  cbv
  repeat' first | exact W1 | (simp only [k1,k2,k3,k4,k5,k6,k7,k8,k9,k10,<-hs1];cbv) | refine WA ?_ ?_ | with_reducible intro hcc | refine WS ?_ | ((with_reducible refine hA.invk hm1 hd1 ?_);cbv) | ((with_reducible show A.call _ _ _ _ _ fn1 _ _ _);refine callK_eq hA hP hfr1 rfl ?_ (Wks.refl _) (fun _ _=>hp1);cbv) | ((with_reducible first | refine callK_f hA hP h33 ?_ ?_ ?_);exact rfl;exact rfl;cbv) | refine W6 ?_ | ((with_reducible first | refine hA.Len fun z hz hb=>?_ | refine hA.Off fun b hb=>?_ | refine hA.Plus fun b hb=>?_ | refine hA.gb _ _ fun vb hvb=>?_);cbv) | ((with_reducible first | refine hA.Sapp ?_ fun sl hsl=>?_);rotate_left;cbv) | refine WL ?_ | fail
  all_goals try simp only [hA.sm,n_cast] at *
  all_goals first | omega | rfl | trivial | exact gg1 _ | exact gg2 _ | exact gg3 _ | exact gg4 _ | exact gg5 _ | (rw [hres];done)
 ·rw [if_pos rfl] at hres
  cbv
  repeat' first | exact W1 | (simp only [k1,k2,k3,k4,k5,k6,k7,k8,k9,k10,<-hs1];cbv) | refine WA ?_ ?_ | with_reducible intro hcc | refine WS ?_ | ((with_reducible refine hA.invk hm1 hd1 ?_);cbv) | ((with_reducible show A.call _ _ _ _ _ fn1 _ _ _);refine callK_eq hA hP hfr1 rfl ?_ (Wks.refl _) (fun _ _=>hp1);cbv) | ((with_reducible first | refine callK_f hA hP h33 ?_ ?_ ?_);exact rfl;exact rfl;cbv) | refine W6 ?_ | ((with_reducible first | refine hA.Len fun z hz hb=>?_ | refine hA.Off fun b hb=>?_ | refine hA.Plus fun b hb=>?_ | refine hA.gb _ _ fun vb hvb=>?_);cbv) | ((with_reducible first | refine hA.Sapp ?_ fun sl hsl=>?_);rotate_left;cbv) | refine WL ?_ | fail
  all_goals try simp only [hA.sm,n_cast] at *
  all_goals first | omega | rfl | trivial | exact gg1 _ | exact gg2 _ | exact gg3 _ | exact gg4 _ | exact gg5 _ | (rw [hres];done))
theorem ok323_4 (T M:Int) (Ex:List (Int×Int)) (Exs:List (List (Int×Int))) (L R:Int) (x y es xt xst:List (List E)) (hx:x=Ex.map orow) (hy:y=Exs.map orr) (ts:List Tb) (hxt:xt=ts.map tbr) (hxl:x.length<=1048576) (hyl:y.length<=1048576) (hel: ∀e∈Exs,e.length<=1048576) (env:Int) (he:0<=env/\env<=400) (l:Ot) (T1:TypeId) (c1:List E) (w1:Int) (hlE:l.E= .ia T1 c1) (hlw:l.w=w1) (h1:Wid T1 c1 w1) (hw1:0<=w1/\w1<=200) (r:Ot) (e2:E):
  Plain Tryz.prog 164 [.agg [.e (.sl es),.e (.sl xt),.e (.sl xst)],.agg [.int 4,.int T,.int M,.e (.sl x),.e (.sl y),.int L,.int R],.int env,.e (E.ia T1 c1),.e (e2)] (.e (optE (ndO ⟨4,T,M,Ex,Exs,L,R⟩ ts env l r))):=okOf mixed p164 fun A P hA hP=>(by
 obtain ⟨res,hres⟩: ∃e,e=optE (ndO ⟨4,T,M,Ex,Exs,L,R⟩ ts env l r):=⟨_,rfl⟩
 rw [<-hres]
 have k1:A.eq 4 1=false:=hA.eq _ _
 have k2:A.eq 4 2=false:=hA.eq _ _
 have k3:A.eq 4 3=false:=hA.eq _ _
 have k4:A.eq 4 4=true:=hA.eq _ _
 have k5:A.eq 4 5=false:=hA.eq _ _
 have k6:A.eq 4 6=false:=hA.eq _ _
 have k7:A.eq 4 7=false:=hA.eq _ _
 have k8:A.eq 4 8=false:=hA.eq _ _
 have k9:A.eq 4 9=false:=hA.eq _ _
 have k10:A.eq 4 10=false:=hA.eq _ _
 have hf':True:=trivial
 have h318:=ok217o Exs y hy hel env (by omega) T1 c1 w1 h1 (by omega) (env+w1) rfl
 obtain ⟨an,han⟩: ∃b,b=Exs.any fun e=>!exOk e (env+w1):=⟨_,rfl⟩
 rw [<-han] at h318
 have hres:res=if an=false then .ia 263 [.sl y,.ia T1 c1] else .v .nilIface:=by
  rw [hres,ndO]
  simp only [Int.reduceEq,if_true,if_false,hlw,<-han,true_and,false_and,and_true,or_true,true_or,or_false,false_or,Bool.false_eq_true]
  split <;>simp only [optE,Ot.E,<-hy,hlE,]
 clear han
 cases an
 ·rw [if_pos rfl] at hres
  cbv
  repeat' first | exact W1 | (simp only [k1,k2,k3,k4,k5,k6,k7,k8,k9,k10];cbv) | refine WA ?_ ?_ | with_reducible intro hcc | refine WS ?_ | ((with_reducible show A.call _ _ _ _ _ 217 _ _ _);have hc:=h318;refine callK_pr hA hP [2,3] (by rfl) (by exact ⟨rfl,rfl,trivial⟩) (Wks.refl _) ?_ (fun _ _=>hc) hc.side;cbv) | refine W6 ?_ | ((with_reducible first | refine hA.Len fun z hz hb=>?_ | refine hA.Off fun b hb=>?_ | refine hA.Plus fun b hb=>?_ | refine hA.gb _ _ fun vb hvb=>?_);cbv) | ((with_reducible first | refine hA.Sapp ?_ fun sl hsl=>?_);rotate_left;cbv) | refine WL ?_ | fail
  all_goals try simp only [hA.sm,n_cast] at *
  all_goals first | omega | rfl | trivial | exact gg1 _ | exact gg2 _ | exact gg3 _ | exact gg4 _ | exact gg5 _ | (rw [hres];done)
 ·rw [if_neg (by simp)] at hres
  cbv
  repeat' first | exact W1 | (simp only [k1,k2,k3,k4,k5,k6,k7,k8,k9,k10];cbv) | refine WA ?_ ?_ | with_reducible intro hcc | refine WS ?_ | ((with_reducible show A.call _ _ _ _ _ 217 _ _ _);have hc:=h318;refine callK_pr hA hP [2,3] (by rfl) (by exact ⟨rfl,rfl,trivial⟩) (Wks.refl _) ?_ (fun _ _=>hc) hc.side;cbv) | refine W6 ?_ | ((with_reducible first | refine hA.Len fun z hz hb=>?_ | refine hA.Off fun b hb=>?_ | refine hA.Plus fun b hb=>?_ | refine hA.gb _ _ fun vb hvb=>?_);cbv) | ((with_reducible first | refine hA.Sapp ?_ fun sl hsl=>?_);rotate_left;cbv) | refine WL ?_ | fail
  all_goals try simp only [hA.sm,n_cast] at *
  all_goals first | omega | rfl | trivial | exact gg1 _ | exact gg2 _ | exact gg3 _ | exact gg4 _ | exact gg5 _ | (rw [hres];done))
theorem ok323_5 (T M:Int) (Ex:List (Int×Int)) (Exs:List (List (Int×Int))) (L R:Int) (x y es xt xst:List (List E)) (hx:x=Ex.map orow) (hy:y=Exs.map orr) (ts:List Tb) (hxt:xt=ts.map tbr) (hxl:x.length<=1048576) (hyl:y.length<=1048576) (hel: ∀e∈Exs,e.length<=1048576) (env:Int) (he:0<=env/\env<=400) (l:Ot) (T1:TypeId) (c1:List E) (w1:Int) (hlE:l.E= .ia T1 c1) (hlw:l.w=w1) (h1:Wid T1 c1 w1) (hw1:0<=w1/\w1<=200) (r:Ot) (T2:TypeId) (c2:List E) (w2:Int) (hrE:r.E= .ia T2 c2) (hrw:r.w=w2) (h2:Wid T2 c2 w2) (hw2:0<=w2/\w2<=200):
  Plain Tryz.prog 164 [.agg [.e (.sl es),.e (.sl xt),.e (.sl xst)],.agg [.int 5,.int T,.int M,.e (.sl x),.e (.sl y),.int L,.int R],.int env,.e (E.ia T1 c1),.e (E.ia T2 c2)] (.e (optE (ndO ⟨5,T,M,Ex,Exs,L,R⟩ ts env l r))):=okOf mixed p164 fun A P hA hP=>(by
 obtain ⟨res,hres⟩: ∃e,e=optE (ndO ⟨5,T,M,Ex,Exs,L,R⟩ ts env l r):=⟨_,rfl⟩
 rw [<-hres]
 have k1:A.eq 5 1=false:=hA.eq _ _
 have k2:A.eq 5 2=false:=hA.eq _ _
 have k3:A.eq 5 3=false:=hA.eq _ _
 have k4:A.eq 5 4=false:=hA.eq _ _
 have k5:A.eq 5 5=true:=hA.eq _ _
 have k6:A.eq 5 6=false:=hA.eq _ _
 have k7:A.eq 5 7=false:=hA.eq _ _
 have k8:A.eq 5 8=false:=hA.eq _ _
 have k9:A.eq 5 9=false:=hA.eq _ _
 have k10:A.eq 5 10=false:=hA.eq _ _
 obtain ⟨⟨fn1,d1,hd1,hfr1,hm1,hp1⟩⟩:=h1
 have hm1:MRow P T1 "loop.example/s0035/impl.width" fn1:=hP▸hm1
 obtain ⟨⟨fn2,d2,hd2,hfr2,hm2,hp2⟩⟩:=h2
 have hm2:MRow P T2 "loop.example/s0035/impl.width" fn2:=hP▸hm2
 have hres:res= .ia 265 [.ia T1 c1,.ia T2 c2,.bool false]:=by
  rw [hres,ndO]
  simp only [Int.reduceEq,if_true,if_false,optE,Ot.E,hlE,hrE,decide_true,decide_false,Int.reduceEq,true_and,false_and,and_true,or_true,true_or,or_false,false_or,Bool.false_eq_true]
 cbv
 repeat' first | exact W1 | (simp only [k1,k2,k3,k4,k5,k6,k7,k8,k9,k10];cbv) | refine WA ?_ ?_ | with_reducible intro hcc | refine WS ?_ | ((with_reducible refine hA.invk hm1 hd1 ?_);cbv) | ((with_reducible show A.call _ _ _ _ _ fn1 _ _ _);refine callK_eq hA hP hfr1 rfl ?_ (Wks.refl _) (fun _ _=>hp1);cbv) | ((with_reducible refine hA.invk hm2 hd2 ?_);cbv) | ((with_reducible show A.call _ _ _ _ _ fn2 _ _ _);refine callK_eq hA hP hfr2 rfl ?_ (Wks.refl _) (fun _ _=>hp2);cbv) | refine W6 ?_ | ((with_reducible first | refine hA.Len fun z hz hb=>?_ | refine hA.Off fun b hb=>?_ | refine hA.Plus fun b hb=>?_ | refine hA.gb _ _ fun vb hvb=>?_);cbv) | ((with_reducible first | refine hA.Sapp ?_ fun sl hsl=>?_);rotate_left;cbv) | refine WL ?_ | fail
 all_goals try simp only [hA.sm,n_cast] at *
 all_goals first | omega | rfl | trivial | exact gg1 _ | exact gg2 _ | exact gg3 _ | exact gg4 _ | exact gg5 _ | (rw [hres];done))
theorem ok323_6 (T M:Int) (Ex:List (Int×Int)) (Exs:List (List (Int×Int))) (L R:Int) (x y es xt xst:List (List E)) (hx:x=Ex.map orow) (hy:y=Exs.map orr) (ts:List Tb) (hxt:xt=ts.map tbr) (hxl:x.length<=1048576) (hyl:y.length<=1048576) (hel: ∀e∈Exs,e.length<=1048576) (env:Int) (he:0<=env/\env<=400) (l:Ot) (T1:TypeId) (c1:List E) (w1:Int) (hlE:l.E= .ia T1 c1) (hlw:l.w=w1) (h1:Wid T1 c1 w1) (hw1:0<=w1/\w1<=200) (r:Ot) (T2:TypeId) (c2:List E) (w2:Int) (hrE:r.E= .ia T2 c2) (hrw:r.w=w2) (h2:Wid T2 c2 w2) (hw2:0<=w2/\w2<=200):
  Plain Tryz.prog 164 [.agg [.e (.sl es),.e (.sl xt),.e (.sl xst)],.agg [.int 6,.int T,.int M,.e (.sl x),.e (.sl y),.int L,.int R],.int env,.e (E.ia T1 c1),.e (E.ia T2 c2)] (.e (optE (ndO ⟨6,T,M,Ex,Exs,L,R⟩ ts env l r))):=okOf mixed p164 fun A P hA hP=>(by
 obtain ⟨res,hres⟩: ∃e,e=optE (ndO ⟨6,T,M,Ex,Exs,L,R⟩ ts env l r):=⟨_,rfl⟩
 rw [<-hres]
 have k1:A.eq 6 1=false:=hA.eq _ _
 have k2:A.eq 6 2=false:=hA.eq _ _
 have k3:A.eq 6 3=false:=hA.eq _ _
 have k4:A.eq 6 4=false:=hA.eq _ _
 have k5:A.eq 6 5=false:=hA.eq _ _
 have k6:A.eq 6 6=true:=hA.eq _ _
 have k7:A.eq 6 7=false:=hA.eq _ _
 have k8:A.eq 6 8=false:=hA.eq _ _
 have k9:A.eq 6 9=false:=hA.eq _ _
 have k10:A.eq 6 10=false:=hA.eq _ _
 obtain ⟨⟨fn1,d1,hd1,hfr1,hm1,hp1⟩⟩:=h1
 have hm1:MRow P T1 "loop.example/s0035/impl.width" fn1:=hP▸hm1
 obtain ⟨⟨fn2,d2,hd2,hfr2,hm2,hp2⟩⟩:=h2
 have hm2:MRow P T2 "loop.example/s0035/impl.width" fn2:=hP▸hm2
 have hres:res= .ia 265 [.ia T1 c1,.ia T2 c2,.bool true]:=by
  rw [hres,ndO]
  simp only [Int.reduceEq,if_true,if_false,optE,Ot.E,hlE,hrE,decide_true,decide_false,Int.reduceEq,true_and,false_and,and_true,or_true,true_or,or_false,false_or,Bool.false_eq_true]
 cbv
 repeat' first | exact W1 | (simp only [k1,k2,k3,k4,k5,k6,k7,k8,k9,k10];cbv) | refine WA ?_ ?_ | with_reducible intro hcc | refine WS ?_ | ((with_reducible refine hA.invk hm1 hd1 ?_);cbv) | ((with_reducible show A.call _ _ _ _ _ fn1 _ _ _);refine callK_eq hA hP hfr1 rfl ?_ (Wks.refl _) (fun _ _=>hp1);cbv) | ((with_reducible refine hA.invk hm2 hd2 ?_);cbv) | ((with_reducible show A.call _ _ _ _ _ fn2 _ _ _);refine callK_eq hA hP hfr2 rfl ?_ (Wks.refl _) (fun _ _=>hp2);cbv) | refine W6 ?_ | ((with_reducible first | refine hA.Len fun z hz hb=>?_ | refine hA.Off fun b hb=>?_ | refine hA.Plus fun b hb=>?_ | refine hA.gb _ _ fun vb hvb=>?_);cbv) | ((with_reducible first | refine hA.Sapp ?_ fun sl hsl=>?_);rotate_left;cbv) | refine WL ?_ | fail
 all_goals try simp only [hA.sm,n_cast] at *
 all_goals first | omega | rfl | trivial | exact gg1 _ | exact gg2 _ | exact gg3 _ | exact gg4 _ | exact gg5 _ | (rw [hres];done))
theorem ok323_7 (T M:Int) (Ex:List (Int×Int)) (Exs:List (List (Int×Int))) (L R:Int) (x y es xt xst:List (List E)) (hx:x=Ex.map orow) (hy:y=Exs.map orr) (ts:List Tb) (hxt:xt=ts.map tbr) (hxl:x.length<=1048576) (hyl:y.length<=1048576) (hel: ∀e∈Exs,e.length<=1048576) (env:Int) (he:0<=env/\env<=400) (l:Ot) (T1:TypeId) (c1:List E) (w1:Int) (hlE:l.E= .ia T1 c1) (hlw:l.w=w1) (h1:Wid T1 c1 w1) (hw1:0<=w1/\w1<=200) (r:Ot) (T2:TypeId) (c2:List E) (w2:Int) (hrE:r.E= .ia T2 c2) (hrw:r.w=w2) (h2:Wid T2 c2 w2) (hw2:0<=w2/\w2<=200):
  Plain Tryz.prog 164 [.agg [.e (.sl es),.e (.sl xt),.e (.sl xst)],.agg [.int 7,.int T,.int M,.e (.sl x),.e (.sl y),.int L,.int R],.int env,.e (E.ia T1 c1),.e (E.ia T2 c2)] (.e (optE (ndO ⟨7,T,M,Ex,Exs,L,R⟩ ts env l r))):=okOf mixed p164 fun A P hA hP=>(by
 obtain ⟨res,hres⟩: ∃e,e=optE (ndO ⟨7,T,M,Ex,Exs,L,R⟩ ts env l r):=⟨_,rfl⟩
 rw [<-hres]
 have k1:A.eq 7 1=false:=hA.eq _ _
 have k2:A.eq 7 2=false:=hA.eq _ _
 have k3:A.eq 7 3=false:=hA.eq _ _
 have k4:A.eq 7 4=false:=hA.eq _ _
 have k5:A.eq 7 5=false:=hA.eq _ _
 have k6:A.eq 7 6=false:=hA.eq _ _
 have k7:A.eq 7 7=true:=hA.eq _ _
 have k8:A.eq 7 8=false:=hA.eq _ _
 have k9:A.eq 7 9=false:=hA.eq _ _
 have k10:A.eq 7 10=false:=hA.eq _ _
 obtain ⟨⟨fn1,d1,hd1,hfr1,hm1,hp1⟩⟩:=h1
 have hm1:MRow P T1 "loop.example/s0035/impl.width" fn1:=hP▸hm1
 obtain ⟨⟨fn2,d2,hd2,hfr2,hm2,hp2⟩⟩:=h2
 have hm2:MRow P T2 "loop.example/s0035/impl.width" fn2:=hP▸hm2
 obtain ⟨s1,hs1⟩: ∃z,z=A.add env w1:=⟨_,rfl⟩
 have hs1':s1=env+w1:=by rw [hs1,hA.add]
 obtain ⟨s2,hs2⟩: ∃z,z=A.add s1 w2:=⟨_,rfl⟩
 have hs2':s2=env+w1+w2:=by rw [hs2,hA.add,hs1']
 have h33:=ok216 Ex x hx hxl s2
 obtain ⟨ex,hex⟩: ∃b,b=exOk Ex s2:=⟨_,rfl⟩
 rw [<-hex] at h33
 rw [hs2'] at hex
 have hres:res=if ex=true then .ia 267 [.sl x,.ia T1 c1,.ia T2 c2] else .v .nilIface:=by
  rw [hres,ndO]
  simp only [Int.reduceEq,if_true,if_false,hlw,hrw,<-hex,true_and,false_and,and_true,or_true,true_or,or_false,false_or,Bool.false_eq_true]
  split <;>simp only [optE,Ot.E,<-hx,hlE,hrE,]
 cases ex
 ·rw [if_neg (by simp)] at hres
  cbv
  repeat' first | exact W1 | (simp only [k1,k2,k3,k4,k5,k6,k7,k8,k9,k10,<-hs1,<-hs2];cbv) | refine WA ?_ ?_ | with_reducible intro hcc | refine WS ?_ | ((with_reducible refine hA.invk hm1 hd1 ?_);cbv) | ((with_reducible show A.call _ _ _ _ _ fn1 _ _ _);refine callK_eq hA hP hfr1 rfl ?_ (Wks.refl _) (fun _ _=>hp1);cbv) | ((with_reducible refine hA.invk hm2 hd2 ?_);cbv) | ((with_reducible show A.call _ _ _ _ _ fn2 _ _ _);refine callK_eq hA hP hfr2 rfl ?_ (Wks.refl _) (fun _ _=>hp2);cbv) | ((with_reducible first | refine callK_f hA hP h33 ?_ ?_ ?_);exact rfl;exact rfl;cbv) | refine W6 ?_ | ((with_reducible first | refine hA.Len fun z hz hb=>?_ | refine hA.Off fun b hb=>?_ | refine hA.Plus fun b hb=>?_ | refine hA.gb _ _ fun vb hvb=>?_);cbv) | ((with_reducible first | refine hA.Sapp ?_ fun sl hsl=>?_);rotate_left;cbv) | refine WL ?_ | fail
  all_goals try simp only [hA.sm,n_cast] at *
  all_goals first | omega | rfl | trivial | exact gg1 _ | exact gg2 _ | exact gg3 _ | exact gg4 _ | exact gg5 _ | (rw [hres];done)
 ·rw [if_pos rfl] at hres
  cbv
  repeat' first | exact W1 | (simp only [k1,k2,k3,k4,k5,k6,k7,k8,k9,k10,<-hs1,<-hs2];cbv) | refine WA ?_ ?_ | with_reducible intro hcc | refine WS ?_ | ((with_reducible refine hA.invk hm1 hd1 ?_);cbv) | ((with_reducible show A.call _ _ _ _ _ fn1 _ _ _);refine callK_eq hA hP hfr1 rfl ?_ (Wks.refl _) (fun _ _=>hp1);cbv) | ((with_reducible refine hA.invk hm2 hd2 ?_);cbv) | ((with_reducible show A.call _ _ _ _ _ fn2 _ _ _);refine callK_eq hA hP hfr2 rfl ?_ (Wks.refl _) (fun _ _=>hp2);cbv) | ((with_reducible first | refine callK_f hA hP h33 ?_ ?_ ?_);exact rfl;exact rfl;cbv) | refine W6 ?_ | ((with_reducible first | refine hA.Len fun z hz hb=>?_ | refine hA.Off fun b hb=>?_ | refine hA.Plus fun b hb=>?_ | refine hA.gb _ _ fun vb hvb=>?_);cbv) | ((with_reducible first | refine hA.Sapp ?_ fun sl hsl=>?_);rotate_left;cbv) | refine WL ?_ | fail
  all_goals try simp only [hA.sm,n_cast] at *
  all_goals first | omega | rfl | trivial | exact gg1 _ | exact gg2 _ | exact gg3 _ | exact gg4 _ | exact gg5 _ | (rw [hres];done))
theorem ok323_8 (T M:Int) (Ex:List (Int×Int)) (Exs:List (List (Int×Int))) (L R:Int) (x y es xt xst:List (List E)) (hx:x=Ex.map orow) (hy:y=Exs.map orr) (ts:List Tb) (hxt:xt=ts.map tbr) (hxl:x.length<=1048576) (hyl:y.length<=1048576) (hel: ∀e∈Exs,e.length<=1048576) (env:Int) (he:0<=env/\env<=400) (l:Ot) (T1:TypeId) (c1:List E) (w1:Int) (hlE:l.E= .ia T1 c1) (hlw:l.w=w1) (h1:Wid T1 c1 w1) (hw1:0<=w1/\w1<=200) (r:Ot) (T2:TypeId) (c2:List E) (w2:Int) (hrE:r.E= .ia T2 c2) (hrw:r.w=w2) (h2:Wid T2 c2 w2) (hw2:0<=w2/\w2<=200):
  Plain Tryz.prog 164 [.agg [.e (.sl es),.e (.sl xt),.e (.sl xst)],.agg [.int 8,.int T,.int M,.e (.sl x),.e (.sl y),.int L,.int R],.int env,.e (E.ia T1 c1),.e (E.ia T2 c2)] (.e (optE (ndO ⟨8,T,M,Ex,Exs,L,R⟩ ts env l r))):=okOf mixed p164 fun A P hA hP=>(by
 obtain ⟨res,hres⟩: ∃e,e=optE (ndO ⟨8,T,M,Ex,Exs,L,R⟩ ts env l r):=⟨_,rfl⟩
 rw [<-hres]
 have k1:A.eq 8 1=false:=hA.eq _ _
 have k2:A.eq 8 2=false:=hA.eq _ _
 have k3:A.eq 8 3=false:=hA.eq _ _
 have k4:A.eq 8 4=false:=hA.eq _ _
 have k5:A.eq 8 5=false:=hA.eq _ _
 have k6:A.eq 8 6=false:=hA.eq _ _
 have k7:A.eq 8 7=false:=hA.eq _ _
 have k8:A.eq 8 8=true:=hA.eq _ _
 have k9:A.eq 8 9=false:=hA.eq _ _
 have k10:A.eq 8 10=false:=hA.eq _ _
 obtain ⟨⟨fn1,d1,hd1,hfr1,hm1,hp1⟩⟩:=h1
 have hm1:MRow P T1 "loop.example/s0035/impl.width" fn1:=hP▸hm1
 obtain ⟨⟨fn2,d2,hd2,hfr2,hm2,hp2⟩⟩:=h2
 have hm2:MRow P T2 "loop.example/s0035/impl.width" fn2:=hP▸hm2
 obtain ⟨s1,hs1⟩: ∃z,z=A.add env w1:=⟨_,rfl⟩
 have hs1':s1=env+w1:=by rw [hs1,hA.add]
 obtain ⟨s2,hs2⟩: ∃z,z=A.add s1 w2:=⟨_,rfl⟩
 have hs2':s2=env+w1+w2:=by rw [hs2,hA.add,hs1']
 have h33:=ok216 Ex x hx hxl s2
 obtain ⟨ex,hex⟩: ∃b,b=exOk Ex s2:=⟨_,rfl⟩
 rw [<-hex] at h33
 rw [hs2'] at hex
 obtain ⟨m1,hm⟩: ∃b,b=decide (M=1):=⟨_,rfl⟩
 have vm:A.eq M 1=m1:=by rw [hA.eq,hm]
 have hres:res=if m1=true\/ex=true then .ia 269 [.int M,.sl x,.ia T1 c1,.ia T2 c2] else .v .nilIface:=by
  rw [hres,ndO,hm]
  simp only [Int.reduceEq,if_true,if_false,hlw,hrw,<-hex,decide_eq_true_eq,true_and,false_and,and_true,or_true,true_or,or_false,false_or,Bool.false_eq_true]
  split <;>simp only [optE,Ot.E,<-hx,hlE,hrE,]
 clear hm
 cases m1
 ·cases ex
  ·rw [if_neg (by simp)] at hres
   cbv
   repeat' first | exact W1 | (simp only [k1,k2,k3,k4,k5,k6,k7,k8,k9,k10,vm,<-hs1,<-hs2];cbv) | refine WA ?_ ?_ | with_reducible intro hcc | refine WS ?_ | ((with_reducible refine hA.invk hm1 hd1 ?_);cbv) | ((with_reducible show A.call _ _ _ _ _ fn1 _ _ _);refine callK_eq hA hP hfr1 rfl ?_ (Wks.refl _) (fun _ _=>hp1);cbv) | ((with_reducible refine hA.invk hm2 hd2 ?_);cbv) | ((with_reducible show A.call _ _ _ _ _ fn2 _ _ _);refine callK_eq hA hP hfr2 rfl ?_ (Wks.refl _) (fun _ _=>hp2);cbv) | ((with_reducible first | refine callK_f hA hP h33 ?_ ?_ ?_);exact rfl;exact rfl;cbv) | refine W6 ?_ | ((with_reducible first | refine hA.Len fun z hz hb=>?_ | refine hA.Off fun b hb=>?_ | refine hA.Plus fun b hb=>?_ | refine hA.gb _ _ fun vb hvb=>?_);cbv) | ((with_reducible first | refine hA.Sapp ?_ fun sl hsl=>?_);rotate_left;cbv) | refine WL ?_ | fail
   all_goals try simp only [hA.sm,n_cast] at *
   all_goals first | omega | rfl | trivial | exact gg1 _ | exact gg2 _ | exact gg3 _ | exact gg4 _ | exact gg5 _ | (rw [hres];done)
  ·rw [if_pos (.inr rfl)] at hres
   cbv
   repeat' first | exact W1 | (simp only [k1,k2,k3,k4,k5,k6,k7,k8,k9,k10,vm,<-hs1,<-hs2];cbv) | refine WA ?_ ?_ | with_reducible intro hcc | refine WS ?_ | ((with_reducible refine hA.invk hm1 hd1 ?_);cbv) | ((with_reducible show A.call _ _ _ _ _ fn1 _ _ _);refine callK_eq hA hP hfr1 rfl ?_ (Wks.refl _) (fun _ _=>hp1);cbv) | ((with_reducible refine hA.invk hm2 hd2 ?_);cbv) | ((with_reducible show A.call _ _ _ _ _ fn2 _ _ _);refine callK_eq hA hP hfr2 rfl ?_ (Wks.refl _) (fun _ _=>hp2);cbv) | ((with_reducible first | refine callK_f hA hP h33 ?_ ?_ ?_);exact rfl;exact rfl;cbv) | refine W6 ?_ | ((with_reducible first | refine hA.Len fun z hz hb=>?_ | refine hA.Off fun b hb=>?_ | refine hA.Plus fun b hb=>?_ | refine hA.gb _ _ fun vb hvb=>?_);cbv) | ((with_reducible first | refine hA.Sapp ?_ fun sl hsl=>?_);rotate_left;cbv) | refine WL ?_ | fail
   all_goals try simp only [hA.sm,n_cast] at *
   all_goals first | omega | rfl | trivial | exact gg1 _ | exact gg2 _ | exact gg3 _ | exact gg4 _ | exact gg5 _ | (rw [hres];done)
 ·rw [if_pos (.inl rfl)] at hres
  cbv
  repeat' first | exact W1 | (simp only [k1,k2,k3,k4,k5,k6,k7,k8,k9,k10,vm,<-hs1,<-hs2];cbv) | refine WA ?_ ?_ | with_reducible intro hcc | refine WS ?_ | ((with_reducible show A.call _ _ _ _ false 216 _ _ _);refine callK_no hA (.bool false) ?_;cbv) | ((with_reducible show A.call _ _ _ _ false _ _ _ _);refine callK_no hA (.int 0) ?_;cbv) | ((with_reducible refine hA.invk hm1 hd1 ?_);cbv) | ((with_reducible show A.call _ _ _ _ _ fn1 _ _ _);refine callK_eq hA hP hfr1 rfl ?_ (Wks.refl _) (fun _ _=>hp1);cbv) | ((with_reducible refine hA.invk hm2 hd2 ?_);cbv) | ((with_reducible show A.call _ _ _ _ _ fn2 _ _ _);refine callK_eq hA hP hfr2 rfl ?_ (Wks.refl _) (fun _ _=>hp2);cbv) | ((with_reducible first | refine callK_f hA hP h33 ?_ ?_ ?_);exact rfl;exact rfl;cbv) | refine W6 ?_ | ((with_reducible first | refine hA.Len fun z hz hb=>?_ | refine hA.Off fun b hb=>?_ | refine hA.Plus fun b hb=>?_ | refine hA.gb _ _ fun vb hvb=>?_);cbv) | ((with_reducible first | refine hA.Sapp ?_ fun sl hsl=>?_);rotate_left;cbv) | refine WL ?_ | fail
  all_goals try simp only [hA.sm,n_cast] at *
  all_goals first | omega | rfl | trivial | exact gg1 _ | exact gg2 _ | exact gg3 _ | exact gg4 _ | exact gg5 _ | (rw [hres];done))
theorem ok323_9 (T M:Int) (Ex:List (Int×Int)) (Exs:List (List (Int×Int))) (L R:Int) (x y es xt xst:List (List E)) (hx:x=Ex.map orow) (hy:y=Exs.map orr) (ts:List Tb) (hxt:xt=ts.map tbr) (hxl:x.length<=1048576) (hyl:y.length<=1048576) (hel: ∀e∈Exs,e.length<=1048576) (env:Int) (he:0<=env/\env<=400) (l:Ot) (T1:TypeId) (c1:List E) (w1:Int) (hlE:l.E= .ia T1 c1) (hlw:l.w=w1) (h1:Wid T1 c1 w1) (hw1:0<=w1/\w1<=200) (r:Ot) (e2:E):
  Plain Tryz.prog 164 [.agg [.e (.sl es),.e (.sl xt),.e (.sl xst)],.agg [.int 9,.int T,.int M,.e (.sl x),.e (.sl y),.int L,.int R],.int env,.e (E.ia T1 c1),.e (e2)] (.e (optE (ndO ⟨9,T,M,Ex,Exs,L,R⟩ ts env l r))):=okOf mixed p164 fun A P hA hP=>(by
 obtain ⟨res,hres⟩: ∃e,e=optE (ndO ⟨9,T,M,Ex,Exs,L,R⟩ ts env l r):=⟨_,rfl⟩
 rw [<-hres]
 have k1:A.eq 9 1=false:=hA.eq _ _
 have k2:A.eq 9 2=false:=hA.eq _ _
 have k3:A.eq 9 3=false:=hA.eq _ _
 have k4:A.eq 9 4=false:=hA.eq _ _
 have k5:A.eq 9 5=false:=hA.eq _ _
 have k6:A.eq 9 6=false:=hA.eq _ _
 have k7:A.eq 9 7=false:=hA.eq _ _
 have k8:A.eq 9 8=false:=hA.eq _ _
 have k9:A.eq 9 9=true:=hA.eq _ _
 have k10:A.eq 9 10=false:=hA.eq _ _
 obtain ⟨⟨fn1,d1,hd1,hfr1,hm1,hp1⟩⟩:=h1
 have hm1:MRow P T1 "loop.example/s0035/impl.width" fn1:=hP▸hm1
 have hres:res= .ia 271 [.ia T1 c1]:=by
  rw [hres,ndO]
  simp only [Int.reduceEq,if_true,if_false,optE,Ot.E,hlE,decide_true,decide_false,Int.reduceEq,true_and,false_and,and_true,or_true,true_or,or_false,false_or,Bool.false_eq_true]
 cbv
 repeat' first | exact W1 | (simp only [k1,k2,k3,k4,k5,k6,k7,k8,k9,k10];cbv) | refine WA ?_ ?_ | with_reducible intro hcc | refine WS ?_ | ((with_reducible refine hA.invk hm1 hd1 ?_);cbv) | ((with_reducible show A.call _ _ _ _ _ fn1 _ _ _);refine callK_eq hA hP hfr1 rfl ?_ (Wks.refl _) (fun _ _=>hp1);cbv) | refine W6 ?_ | ((with_reducible first | refine hA.Len fun z hz hb=>?_ | refine hA.Off fun b hb=>?_ | refine hA.Plus fun b hb=>?_ | refine hA.gb _ _ fun vb hvb=>?_);cbv) | ((with_reducible first | refine hA.Sapp ?_ fun sl hsl=>?_);rotate_left;cbv) | refine WL ?_ | fail
 all_goals try simp only [hA.sm,n_cast] at *
 all_goals first | omega | rfl | trivial | exact gg1 _ | exact gg2 _ | exact gg3 _ | exact gg4 _ | exact gg5 _ | (rw [hres];done))
theorem ok323_10 (T M:Int) (Ex:List (Int×Int)) (Exs:List (List (Int×Int))) (L R:Int) (x y es xt xst:List (List E)) (hx:x=Ex.map orow) (hy:y=Exs.map orr) (ts:List Tb) (hxt:xt=ts.map tbr) (hxl:x.length<=1048576) (hyl:y.length<=1048576) (hel: ∀e∈Exs,e.length<=1048576) (env:Int) (he:0<=env/\env<=400) (l:Ot) (T1:TypeId) (c1:List E) (w1:Int) (hlE:l.E= .ia T1 c1) (hlw:l.w=w1) (h1:Wid T1 c1 w1) (hw1:0<=w1/\w1<=200) (r:Ot) (T2:TypeId) (c2:List E) (w2:Int) (hrE:r.E= .ia T2 c2) (hrw:r.w=w2) (h2:Wid T2 c2 w2) (hw2:0<=w2/\w2<=200):
  Plain Tryz.prog 164 [.agg [.e (.sl es),.e (.sl xt),.e (.sl xst)],.agg [.int 10,.int T,.int M,.e (.sl x),.e (.sl y),.int L,.int R],.int env,.e (E.ia T1 c1),.e (E.ia T2 c2)] (.e (optE (ndO ⟨10,T,M,Ex,Exs,L,R⟩ ts env l r))):=okOf mixed p164 fun A P hA hP=>(by
 obtain ⟨res,hres⟩: ∃e,e=optE (ndO ⟨10,T,M,Ex,Exs,L,R⟩ ts env l r):=⟨_,rfl⟩
 rw [<-hres]
 have k1:A.eq 10 1=false:=hA.eq _ _
 have k2:A.eq 10 2=false:=hA.eq _ _
 have k3:A.eq 10 3=false:=hA.eq _ _
 have k4:A.eq 10 4=false:=hA.eq _ _
 have k5:A.eq 10 5=false:=hA.eq _ _
 have k6:A.eq 10 6=false:=hA.eq _ _
 have k7:A.eq 10 7=false:=hA.eq _ _
 have k8:A.eq 10 8=false:=hA.eq _ _
 have k9:A.eq 10 9=false:=hA.eq _ _
 have k10:A.eq 10 10=true:=hA.eq _ _
 obtain ⟨⟨fn1,d1,hd1,hfr1,hm1,hp1⟩⟩:=h1
 have hm1:MRow P T1 "loop.example/s0035/impl.width" fn1:=hP▸hm1
 obtain ⟨⟨fn2,d2,hd2,hfr2,hm2,hp2⟩⟩:=h2
 have hm2:MRow P T2 "loop.example/s0035/impl.width" fn2:=hP▸hm2
 obtain ⟨lr,hlr⟩: ∃b,b=decide (w1=w2):=⟨_,rfl⟩
 have vlr:A.eq w1 w2=lr:=by rw [hA.eq,hlr]
 have hres:res=if lr=true then .ia 273 [.ia T1 c1,.ia T2 c2] else .v .nilIface:=by
  rw [hres,ndO,hlr]
  simp only [Int.reduceEq,if_true,if_false,hlw,hrw,decide_eq_true_eq,true_and,false_and,and_true,or_true,true_or,or_false,false_or,Bool.false_eq_true]
  split <;>simp only [optE,Ot.E,hlE,hrE,]
 clear hlr
 cases lr
 ·rw [if_neg (by simp)] at hres
  cbv
  repeat' first | exact W1 | (simp only [k1,k2,k3,k4,k5,k6,k7,k8,k9,k10,vlr];cbv) | refine WA ?_ ?_ | with_reducible intro hcc | refine WS ?_ | ((with_reducible refine hA.invk hm1 hd1 ?_);cbv) | ((with_reducible show A.call _ _ _ _ _ fn1 _ _ _);refine callK_eq hA hP hfr1 rfl ?_ (Wks.refl _) (fun _ _=>hp1);cbv) | ((with_reducible refine hA.invk hm2 hd2 ?_);cbv) | ((with_reducible show A.call _ _ _ _ _ fn2 _ _ _);refine callK_eq hA hP hfr2 rfl ?_ (Wks.refl _) (fun _ _=>hp2);cbv) | refine W6 ?_ | ((with_reducible first | refine hA.Len fun z hz hb=>?_ | refine hA.Off fun b hb=>?_ | refine hA.Plus fun b hb=>?_ | refine hA.gb _ _ fun vb hvb=>?_);cbv) | ((with_reducible first | refine hA.Sapp ?_ fun sl hsl=>?_);rotate_left;cbv) | refine WL ?_ | fail
  all_goals try simp only [hA.sm,n_cast] at *
  all_goals first | omega | rfl | trivial | exact gg1 _ | exact gg2 _ | exact gg3 _ | exact gg4 _ | exact gg5 _ | (rw [hres];done)
 ·rw [if_pos rfl] at hres
  cbv
  repeat' first | exact W1 | (simp only [k1,k2,k3,k4,k5,k6,k7,k8,k9,k10,vlr];cbv) | refine WA ?_ ?_ | with_reducible intro hcc | refine WS ?_ | ((with_reducible refine hA.invk hm1 hd1 ?_);cbv) | ((with_reducible show A.call _ _ _ _ _ fn1 _ _ _);refine callK_eq hA hP hfr1 rfl ?_ (Wks.refl _) (fun _ _=>hp1);cbv) | ((with_reducible refine hA.invk hm2 hd2 ?_);cbv) | ((with_reducible show A.call _ _ _ _ _ fn2 _ _ _);refine callK_eq hA hP hfr2 rfl ?_ (Wks.refl _) (fun _ _=>hp2);cbv) | refine W6 ?_ | ((with_reducible first | refine hA.Len fun z hz hb=>?_ | refine hA.Off fun b hb=>?_ | refine hA.Plus fun b hb=>?_ | refine hA.gb _ _ fun vb hvb=>?_);cbv) | ((with_reducible first | refine hA.Sapp ?_ fun sl hsl=>?_);rotate_left;cbv) | refine WL ?_ | fail
  all_goals try simp only [hA.sm,n_cast] at *
  all_goals first | omega | rfl | trivial | exact gg1 _ | exact gg2 _ | exact gg3 _ | exact gg4 _ | exact gg5 _ | (rw [hres];done))
end Go.Proofs.YtfplalbognalkaaGreat.Ab
/- Plans: the operators made, by the program. -/
namespace Go.Proofs.YtfplalbognalkaaGreat.Ab
open Go
theorem nd_sm {d:Pd} {ts:List Tb} {env:Int} {l r o:Ot} (h:ndO d ts env l r=some o) (hl:l.sm/\0<=l.w/\l.w<=200) (hr:r.sm/\0<=r.w/\r.w<=200) (hx:d.Exs.length<=1048576) (hct: ∀t:Int,0<=t->t<ts.length->0<=colsOf ts t/\colsOf ts t<=1000):
  o.sm/\0<=o.w/\o.w<=1048576:=by
 obtain ⟨hl1,hl2,hl3⟩:=hl
 obtain ⟨hr1,hr2,hr3⟩:=hr
 unfold ndO at h
 repeat' split at h
 all_goals first
  | (cases h;done)
  | (cases h;simp only [Ot.sm,Ot.w];exact ⟨trivial,by omega⟩)
  | (cases h
     rename_i h2
     have:=hct d.T (by omega) (by omega)
     simp only [Ot.sm,Ot.w]
     unfold colsOf at this
     exact ⟨by omega,by omega⟩)
  | (cases h;simp only [Ot.sm,Ot.w];exact ⟨hl1,by omega⟩)
  | (cases h;simp only [Ot.sm,Ot.w];exact ⟨⟨hx,hl1⟩,by omega⟩)
  | (cases h;simp only [Ot.sm,Ot.w];exact ⟨⟨by omega,hl1,hr1⟩,by omega⟩)
  | (cases h;simp only [Ot.sm,Ot.w];exact ⟨⟨hl1,hr1⟩,by omega⟩)
theorem mk_sm {ns:List Pd} {ts:List Tb} (hlen: ∀d∈ns,d.Exs.length<=1048576) (hct: ∀t:Int,0<=t->t<ts.length->0<=colsOf ts t/\colsOf ts t<=1000):
  ∀(n:Nat) (i env:Int) (o:Ot),0<=env->mkO ns ts n i env=some o->o.sm/\0<=o.w/\o.w+env<=200
 | 0,_,_,_,_,h=>by cases h
 | n+1,i,env,o,he,h=>by
  have ih:=mk_sm hlen hct n
  obtain ⟨d,hd⟩: ∃d,d=ns.getD i.toNat default:=⟨_,rfl⟩
  have hx:d.Exs.length<=1048576:=by
   rw [hd,List.getD]
   cases e:ns[i.toNat]? with
   | none=>simp [default,instInhabitedPd.default]
   | some a=>exact hlen a (List.mem_of_getElem? e)
  simp only [mkO] at h
  rw [<-hd] at h
  split at h
  ·cases h
  ·cases hl:(if hasL d.K=true then mkO ns ts n d.L env else some Ot.unit) with
   | none=>rw [hl] at h;cases h
   | some l=>
    rw [hl] at h
    simp only at h
    have hl2:l.sm/\0<=l.w/\l.w+env<=200\/(l.sm/\l.w=0):=by
     split at hl
     ·exact .inl (ih _ _ _ he hl)
     ·cases hl;exact .inr ⟨trivial,rfl⟩
    cases hr:(if hasR d.K=true then mkO ns ts n d.R (if depK d.K=true then env+l.w else env) else some Ot.unit) with
    | none=>rw [hr] at h;cases h
    | some r=>
     rw [hr] at h
     simp only at h
     have hr2:r.sm/\0<=r.w/\r.w<=200:=by
      split at hr
      ·have:=ih _ _ _ (by split <;>omega) hr
       refine ⟨this.1,this.2.1,?_⟩
       have:=this.2.2
       split at this <;>omega
      ·cases hr;exact ⟨trivial,by simp [Ot.w]⟩
     cases ho:ndO d ts env l r with
     | none=>rw [ho] at h;cases h
     | some o'=>
      rw [ho] at h
      simp only at h
      split at h
      ·cases h
      ·cases h
       have:=nd_sm ho (by rcases hl2 with h | h <;>exact ⟨h.1,by omega⟩) hr2 hx hct
       exact ⟨this.1,this.2.1,by omega⟩
theorem wid_of {o:Ot} (h:o.sm) (hw:0<=o.w/\o.w<=1048576): ∃T c w,o.E= .ia T c/\o.w=w/\Wid T c w:=⟨_,_,_,Ot.E_eq o,rfl,wid_ok o h (by omega)⟩
theorem ok164 (K T M:Int) (Ex:List (Int×Int)) (Exs:List (List (Int×Int))) (L R:Int) (x y es xt xst:List (List E)) (hK:1<=K/\K<=10) (hx:x=Ex.map orow) (hy:y=Exs.map orr) (ts:List Tb) (hxt:xt=ts.map tbr) (hxl:x.length<=1048576) (hyl:y.length<=1048576) (hel: ∀e∈Exs,e.length<=1048576) (env:Int) (he:0<=env/\env<=400)
  (l r:Ot) (lE rE:E) (hl:hasL K=true->lE=l.E/\l.sm/\0<=l.w/\l.w<=200) (hr:hasR K=true->rE=r.E/\r.sm/\0<=r.w/\r.w<=200):
  Plain Tryz.prog 164 [.agg [.e (.sl es),.e (.sl xt),.e (.sl xst)],.agg [.int K,.int T,.int M,.e (.sl x),.e (.sl y),.int L,.int R],.int env,.e lE,.e rE] (.e (optE (ndO ⟨K,T,M,Ex,Exs,L,R⟩ ts env l r))):=by
 rcases (show K=1\/K=2\/K=3\/K=4\/K=5\/K=6\/K=7\/K=8\/K=9\/K=10 by omega) with rfl | rfl | rfl | rfl | rfl | rfl | rfl | rfl | rfl | rfl
 ·exact ok323_1 T M Ex Exs L R x y es xt xst hx hy ts hxt hxl hyl hel env he l lE r rE
 ·exact ok323_2 T M Ex Exs L R x y es xt xst hx hy ts hxt hxl hyl hel env he l lE r rE
 ·obtain ⟨a1,a2,a3⟩:=hl rfl
  obtain ⟨T1,c1,w1,b1,b2,b3⟩:=wid_of a2 (by omega)
  rw [a1,b1]
  exact ok323_3 T M Ex Exs L R x y es xt xst hx hy ts hxt hxl hyl hel env he l T1 c1 w1 b1 b2 b3 (by omega) r rE
 ·obtain ⟨a1,a2,a3⟩:=hl rfl
  obtain ⟨T1,c1,w1,b1,b2,b3⟩:=wid_of a2 (by omega)
  rw [a1,b1]
  exact ok323_4 T M Ex Exs L R x y es xt xst hx hy ts hxt hxl hyl hel env he l T1 c1 w1 b1 b2 b3 (by omega) r rE
 ·obtain ⟨a1,a2,a3⟩:=hl rfl
  obtain ⟨T1,c1,w1,b1,b2,b3⟩:=wid_of a2 (by omega)
  rw [a1,b1]
  obtain ⟨a4,a5,a6⟩:=hr rfl
  obtain ⟨T2,c2,w2,b4,b5,b6⟩:=wid_of a5 (by omega)
  rw [a4,b4]
  exact ok323_5 T M Ex Exs L R x y es xt xst hx hy ts hxt hxl hyl hel env he l T1 c1 w1 b1 b2 b3 (by omega) r T2 c2 w2 b4 b5 b6 (by omega)
 ·obtain ⟨a1,a2,a3⟩:=hl rfl
  obtain ⟨T1,c1,w1,b1,b2,b3⟩:=wid_of a2 (by omega)
  rw [a1,b1]
  obtain ⟨a4,a5,a6⟩:=hr rfl
  obtain ⟨T2,c2,w2,b4,b5,b6⟩:=wid_of a5 (by omega)
  rw [a4,b4]
  exact ok323_6 T M Ex Exs L R x y es xt xst hx hy ts hxt hxl hyl hel env he l T1 c1 w1 b1 b2 b3 (by omega) r T2 c2 w2 b4 b5 b6 (by omega)
 ·obtain ⟨a1,a2,a3⟩:=hl rfl
  obtain ⟨T1,c1,w1,b1,b2,b3⟩:=wid_of a2 (by omega)
  rw [a1,b1]
  obtain ⟨a4,a5,a6⟩:=hr rfl
  obtain ⟨T2,c2,w2,b4,b5,b6⟩:=wid_of a5 (by omega)
  rw [a4,b4]
  exact ok323_7 T M Ex Exs L R x y es xt xst hx hy ts hxt hxl hyl hel env he l T1 c1 w1 b1 b2 b3 (by omega) r T2 c2 w2 b4 b5 b6 (by omega)
 ·obtain ⟨a1,a2,a3⟩:=hl rfl
  obtain ⟨T1,c1,w1,b1,b2,b3⟩:=wid_of a2 (by omega)
  rw [a1,b1]
  obtain ⟨a4,a5,a6⟩:=hr rfl
  obtain ⟨T2,c2,w2,b4,b5,b6⟩:=wid_of a5 (by omega)
  rw [a4,b4]
  exact ok323_8 T M Ex Exs L R x y es xt xst hx hy ts hxt hxl hyl hel env he l T1 c1 w1 b1 b2 b3 (by omega) r T2 c2 w2 b4 b5 b6 (by omega)
 ·obtain ⟨a1,a2,a3⟩:=hl rfl
  obtain ⟨T1,c1,w1,b1,b2,b3⟩:=wid_of a2 (by omega)
  rw [a1,b1]
  exact ok323_9 T M Ex Exs L R x y es xt xst hx hy ts hxt hxl hyl hel env he l T1 c1 w1 b1 b2 b3 (by omega) r rE
 ·obtain ⟨a1,a2,a3⟩:=hl rfl
  obtain ⟨T1,c1,w1,b1,b2,b3⟩:=wid_of a2 (by omega)
  rw [a1,b1]
  obtain ⟨a4,a5,a6⟩:=hr rfl
  obtain ⟨T2,c2,w2,b4,b5,b6⟩:=wid_of a5 (by omega)
  rw [a4,b4]
  exact ok323_10 T M Ex Exs L R x y es xt xst hx hy ts hxt hxl hyl hel env he l T1 c1 w1 b1 b2 b3 (by omega) r T2 c2 w2 b4 b5 b6 (by omega)
theorem ok87 (ns:List Pd) (x:List (List E)) (hx:x=ns.map pdr) (hxl:x.length<=1048576) (hlen: ∀d∈ns,d.Ex.length<=1048576/\d.Exs.length<=1048576/\ ∀e∈d.Exs,e.length<=1048576) (ts:List Tb) (xt:List (List E)) (hxt:xt=ts.map tbr) (hct: ∀t:Int,0<=t->t<ts.length->0<=colsOf ts t/\colsOf ts t<=1000) (hin:InP ns) (xst:List (List E)):
  ∀(n:Nat) (i env:Int),0<=i->i<n->i<x.length->0<=env->env<=200->Plain Tryz.prog 87 [.agg [.e (.sl x),.e (.sl xt),.e (.sl xst)],.int i,.int env] (.e (optE (mkO ns ts n i env))):=by
 intro n
 induction n with
 | zero=>intro i env h1 h2;omega
 | succ n ih=>
  intro i env h1 h2 h3 he1 he2
  have hi:(0:Int)<=i/\i<x.length:=⟨h1,h3⟩
  have hxn:x.length=ns.length:=by rw [hx];simp
  obtain ⟨K,T,M,Ex,Exs,L,R,xe,ye,q0,qm,hxe,hye,q1⟩:=pd_at hx hi
  obtain ⟨hK,hKL,hKR⟩:=hin i h1 (by omega)
  obtain ⟨z1,z2,z3⟩:=hlen _ qm
  rw [q0] at hK hKL hKR
  simp only at hK hKL hKR z1 z2 z3
  have hsm:=mk_sm (fun d hd=>(hlen d hd).2.1) hct n
  obtain ⟨res,hres⟩: ∃e,e=optE (mkO ns ts (n+1) i env):=⟨_,rfl⟩
  rw [<-hres]
  simp only [mkO] at hres
  rw [q0] at hres
  simp only at hres
  refine okOf mixed p87 fun A P hA hP=>?_
  have h322:=ok163 K T M Ex Exs L R xe ye hxe hye
  obtain ⟨u,hu⟩: ∃b,b=usedI ⟨K,T,M,Ex,Exs,L,R⟩:=⟨_,rfl⟩
  rw [<-hu] at h322 hres
  have h251:=ok115 K
  have h252:=ok116 K
  have h253:=ok117 K
  have hLR:hasR K=true->hasL K=true:=fun h=>by simp [hasR] at h;simp [hasL];omega
  have h323:=fun (l r:Ot) (lE rE:E)=>ok164 K T M Ex Exs L R xe ye x xt xst hK hxe hye ts hxt (by rw [hxe,List.length_map];exact z1) (by rw [hye,List.length_map];exact z2) z3 env (by omega) l r lE rE
  obtain ⟨bL,hbL⟩: ∃b,b=hasL K:=⟨_,rfl⟩
  obtain ⟨bR,hbR⟩: ∃b,b=hasR K:=⟨_,rfl⟩
  obtain ⟨bD,hbD⟩: ∃b,b=depK K:=⟨_,rfl⟩
  rw [<-hbL] at h251 hres hKL hLR h323
  rw [<-hbR] at h252 hres hKR hLR h323
  rw [<-hbD] at h253 hres
  have ihL:bL=true->Plain Tryz.prog 87 [.agg [.e (.sl x),.e (.sl xt),.e (.sl xst)],.int L,.int env] (.e (optE (mkO ns ts n L env))):=fun h=>by
   have:=hKL h
   exact ih L env this.1 (by omega) (by omega) he1 he2
  have ihR: ∀env':Int,bR=true->0<=env'->env'<=200->Plain Tryz.prog 87 [.agg [.e (.sl x),.e (.sl xt),.e (.sl xst)],.int R,.int env'] (.e (optE (mkO ns ts n R env'))):=fun env' h a b=>by
   have:=hKR h
   exact ih R env' this.1 (by omega) (by omega) a b
  have hsL:=hsm L env
  have hsR:=hsm R
  obtain ⟨gL,hgL⟩: ∃f:Option Ot,f=mkO ns ts n L env:=⟨_,rfl⟩
  obtain ⟨gR,hgR⟩: ∃f:Int->Option Ot,f=mkO ns ts n R:=⟨_,rfl⟩
  rw [<-hgL] at ihL hres hsL
  rw [<-hgR] at ihR hres hsR
  clear hu hbL hbR hbD hgL hgR ih hsm hin hlen q0 qm hKL hKR
  cases u
  case false=>
   have hr2:res= .v .nilIface:=by rw [hres,if_pos rfl];rfl
   clear hres h323 ihL ihR hsL hsR
   cbv
   repeat' first | exact W1 | refine WA ?_ ?_ | with_reducible intro hcc | refine WS ?_ | (refine hA.RowE hi q1 ?_;cbv) | ((with_reducible refine hA.st [_,_,_,_,_,_,_] _ _ _ _ ⟨?_,fun ds hds=>?_⟩);rotate_left;subst hds;cbv) | refine WK hA hP ?_ | refine W6 ?_ | ((with_reducible first | refine hA.Off fun b hb=>?_ | refine hA.Plus fun b hb=>?_ | refine hA.gb _ _ fun vb hvb=>?_);cbv) | ((with_reducible first | refine hA.Sto ?_ fun ds hds=>?_ | refine hA.Sapp ?_ fun sl hsl=>?_);rotate_left;cbv) | refine WL ?_ | fail
   all_goals try simp only [hA.sm,n_cast] at *
   all_goals first | omega | rfl | trivial | (rw [hr2];done) | (simp;done)
  case true=>
  rw [if_neg (by simp)] at hres
  cases bL
  ·have hbR:bR=false:=by cases bR <;>simp_all
   subst hbR
   rw [if_neg (by simp)] at hres
   simp only [Bool.false_eq_true,if_false] at hres
   have h323:=h323 (.unit) (.unit) (.v .nilIface) (.v .nilIface) (fun h=>by cases h) (fun h=>by cases h)
   cases ho:ndO ⟨K,T,M,Ex,Exs,L,R⟩ ts env (.unit) (.unit) with
   | none=>
    rw [ho] at h323 hres
    have h323:Plain Tryz.prog 164 [.agg [.e (.sl x),.e (.sl xt),.e (.sl xst)],.agg [.int K,.int T,.int M,.e (.sl xe),.e (.sl ye),.int L,.int R],.int env,.e (.v .nilIface),.e (.v .nilIface)] (.e (.v .nilIface)):=h323
    have hr2:res= .v .nilIface:=hres
    clear hres hsL hsR ho
    cbv
    repeat' first | exact W1 | refine WA ?_ ?_ | with_reducible intro hcc | refine WS ?_ | (refine hA.RowE hi q1 ?_;cbv) | ((with_reducible refine hA.st [_,_,_,_,_,_,_] _ _ _ _ ⟨?_,fun ds hds=>?_⟩);rotate_left;subst hds;cbv) | refine WK hA hP ?_ | ((with_reducible refine hA.anyd _ (.int 0) ?_);cbv) | ((with_reducible show A.call _ _ _ _ false _ _ _ _);refine callK_no hA (.int 0) ?_;cbv) | refine W6 ?_ | ((with_reducible first | refine hA.Off fun b hb=>?_ | refine hA.Plus fun b hb=>?_ | refine hA.gb _ _ fun vb hvb=>?_);cbv) | ((with_reducible first | refine hA.Sto ?_ fun ds hds=>?_ | refine hA.Sapp ?_ fun sl hsl=>?_);rotate_left;cbv) | refine WL ?_ | fail
    all_goals try simp only [hA.sm,n_cast] at *
    all_goals first | omega | rfl | trivial | (rw [hr2];done) | (simp;done) | exact gg1 _ | exact gg2 _ | exact gg3 _
   | some o=>
    rw [ho] at h323 hres
    have hos:=nd_sm ho ⟨trivial,by simp [Ot.w]⟩ ⟨trivial,by simp [Ot.w]⟩ z2 hct
    obtain ⟨T3,c3,w3,b1,b2,b3⟩:=wid_of hos.1 hos.2
    simp only [b2] at hres
    have h323:Plain Tryz.prog 164 [.agg [.e (.sl x),.e (.sl xt),.e (.sl xst)],.agg [.int K,.int T,.int M,.e (.sl xe),.e (.sl ye),.int L,.int R],.int env,.e (.v .nilIface),.e (.v .nilIface)] (.e (.ia T3 c3)):=by rw [<-b1];exact h323
    obtain ⟨⟨fn3,d3,hd3,hfr3,hm3,hp3⟩⟩:=b3
    have hm3:MRow P T3 "loop.example/s0035/impl.width" fn3:=hP▸hm3
    have hw3:0<=w3/\w3<=1048576:=by rw [<-b2];exact hos.2
    obtain ⟨ew,hew⟩: ∃z,z=A.add w3 env:=⟨_,rfl⟩
    have hew2:ew=w3+env:=by rw [hew,hA.add]
    rw [<-hew2] at hres
    by_cases h200:200<ew
    ·have vw:A.lt 200 ew=true:=by rw [hA.lt];exact decide_eq_true h200
     have hr2:res= .v .nilIface:=by rw [hres,if_pos h200];rfl
     clear hres hsL hsR ho
     cbv
     repeat' first | exact W1 | (simp only [<-hew,vw];cbv) | refine WA ?_ ?_ | with_reducible intro hcc | refine WS ?_ | (refine hA.RowE hi q1 ?_;cbv) | ((with_reducible refine hA.st [_,_,_,_,_,_,_] _ _ _ _ ⟨?_,fun ds hds=>?_⟩);rotate_left;subst hds;cbv) | ((with_reducible first | refine callK_f hA hP h322 ?_ ?_ ?_ | refine callK_f hA hP h251 ?_ ?_ ?_ | refine callK_f hA hP h252 ?_ ?_ ?_ | refine callK_f hA hP h253 ?_ ?_ ?_ | refine callK_f hA hP h323 ?_ ?_ ?_);exact rfl;exact rfl;cbv) | ((with_reducible refine hA.invk hm3 hd3 ?_);cbv) | ((with_reducible show A.call _ _ _ _ _ fn3 _ _ _);refine callK_eq hA hP hfr3 rfl ?_ (Wks.refl _) (fun _ _=>hp3);cbv) | refine W6 ?_ | ((with_reducible first | refine hA.Off fun b hb=>?_ | refine hA.Plus fun b hb=>?_ | refine hA.gb _ _ fun vb hvb=>?_);cbv) | ((with_reducible first | refine hA.Sto ?_ fun ds hds=>?_ | refine hA.Sapp ?_ fun sl hsl=>?_);rotate_left;cbv) | refine WL ?_ | fail
     all_goals try simp only [hA.sm,n_cast] at *
     all_goals first | omega | rfl | trivial | (rw [hr2];done) | (simp;done) | exact gg1 _ | exact gg2 _ | exact gg3 _
    ·have vw:A.lt 200 ew=false:=by rw [hA.lt];exact decide_eq_false h200
     have hr2:res= .ia T3 c3:=by rw [hres,if_neg h200,optE,b1]
     clear hres hsL hsR ho
     cbv
     repeat' first | exact W1 | (simp only [<-hew,vw];cbv) | refine WA ?_ ?_ | with_reducible intro hcc | refine WS ?_ | (refine hA.RowE hi q1 ?_;cbv) | ((with_reducible refine hA.st [_,_,_,_,_,_,_] _ _ _ _ ⟨?_,fun ds hds=>?_⟩);rotate_left;subst hds;cbv) | ((with_reducible first | refine callK_f hA hP h322 ?_ ?_ ?_ | refine callK_f hA hP h251 ?_ ?_ ?_ | refine callK_f hA hP h252 ?_ ?_ ?_ | refine callK_f hA hP h253 ?_ ?_ ?_ | refine callK_f hA hP h323 ?_ ?_ ?_);exact rfl;exact rfl;cbv) | ((with_reducible refine hA.invk hm3 hd3 ?_);cbv) | ((with_reducible show A.call _ _ _ _ _ fn3 _ _ _);refine callK_eq hA hP hfr3 rfl ?_ (Wks.refl _) (fun _ _=>hp3);cbv) | refine W6 ?_ | ((with_reducible first | refine hA.Off fun b hb=>?_ | refine hA.Plus fun b hb=>?_ | refine hA.gb _ _ fun vb hvb=>?_);cbv) | ((with_reducible first | refine hA.Sto ?_ fun ds hds=>?_ | refine hA.Sapp ?_ fun sl hsl=>?_);rotate_left;cbv) | refine WL ?_ | fail
     all_goals try simp only [hA.sm,n_cast] at *
     all_goals first | omega | rfl | trivial | (rw [hr2];done) | (simp;done) | exact gg1 _ | exact gg2 _ | exact gg3 _
  ·rw [if_pos rfl] at hres
   have ihL:=ihL rfl
   cases gL with
   | none=>
    have ihL:Plain Tryz.prog 87 [.agg [.e (.sl x),.e (.sl xt),.e (.sl xst)],.int L,.int env] (.e (.v .nilIface)):=ihL
    have hr2:res= .v .nilIface:=hres
    clear hres ihR hsL hsR h323
    cbv
    repeat' first | exact W1 | refine WA ?_ ?_ | with_reducible intro hcc | refine WS ?_ | (refine hA.RowE hi q1 ?_;cbv) | ((with_reducible refine hA.st [_,_,_,_,_,_,_] _ _ _ _ ⟨?_,fun ds hds=>?_⟩);rotate_left;subst hds;cbv) | refine WK hA hP ?_ | refine W6 ?_ | ((with_reducible first | refine hA.Off fun b hb=>?_ | refine hA.Plus fun b hb=>?_ | refine hA.gb _ _ fun vb hvb=>?_);cbv) | ((with_reducible first | refine hA.Sto ?_ fun ds hds=>?_ | refine hA.Sapp ?_ fun sl hsl=>?_);rotate_left;cbv) | refine WL ?_ | fail
    all_goals try simp only [hA.sm,n_cast] at *
    all_goals first | omega | rfl | trivial | (rw [hr2];done) | (simp;done) | exact gg1 _ | exact gg2 _ | exact gg3 _
   | some l=>
    have hs1:=hsL l he1 rfl
    obtain ⟨T1,c1,w1,a1,a2,a3⟩:=wid_of hs1.1 (by omega)
    have ihL:Plain Tryz.prog 87 [.agg [.e (.sl x),.e (.sl xt),.e (.sl xst)],.int L,.int env] (.e (.ia T1 c1)):=by rw [<-a1];exact ihL
    simp only [a2] at hres
    cases bR
    ·simp only [Bool.false_eq_true,if_false] at hres
     have h323:=h323 (l) (.unit) (.ia T1 c1) (.v .nilIface) (fun _=>⟨a1.symm,hs1.1,by omega⟩) (fun h=>by cases h)
     cases ho:ndO ⟨K,T,M,Ex,Exs,L,R⟩ ts env (l) (.unit) with
     | none=>
      rw [ho] at h323 hres
      have h323:Plain Tryz.prog 164 [.agg [.e (.sl x),.e (.sl xt),.e (.sl xst)],.agg [.int K,.int T,.int M,.e (.sl xe),.e (.sl ye),.int L,.int R],.int env,.e (.ia T1 c1),.e (.v .nilIface)] (.e (.v .nilIface)):=h323
      have hr2:res= .v .nilIface:=hres
      clear hres hsL hsR ho
      cbv
      repeat' first | exact W1 | refine WA ?_ ?_ | with_reducible intro hcc | refine WS ?_ | (refine hA.RowE hi q1 ?_;cbv) | ((with_reducible refine hA.st [_,_,_,_,_,_,_] _ _ _ _ ⟨?_,fun ds hds=>?_⟩);rotate_left;subst hds;cbv) | refine WK hA hP ?_ | ((with_reducible refine hA.anyd _ (.int 0) ?_);cbv) | ((with_reducible show A.call _ _ _ _ false _ _ _ _);refine callK_no hA (.int 0) ?_;cbv) | refine W6 ?_ | ((with_reducible first | refine hA.Off fun b hb=>?_ | refine hA.Plus fun b hb=>?_ | refine hA.gb _ _ fun vb hvb=>?_);cbv) | ((with_reducible first | refine hA.Sto ?_ fun ds hds=>?_ | refine hA.Sapp ?_ fun sl hsl=>?_);rotate_left;cbv) | refine WL ?_ | fail
      all_goals try simp only [hA.sm,n_cast] at *
      all_goals first | omega | rfl | trivial | (rw [hr2];done) | (simp;done) | exact gg1 _ | exact gg2 _ | exact gg3 _
     | some o=>
      rw [ho] at h323 hres
      have hos:=nd_sm ho ⟨hs1.1,by omega⟩ ⟨trivial,by simp [Ot.w]⟩ z2 hct
      obtain ⟨T3,c3,w3,b1,b2,b3⟩:=wid_of hos.1 hos.2
      simp only [b2] at hres
      have h323:Plain Tryz.prog 164 [.agg [.e (.sl x),.e (.sl xt),.e (.sl xst)],.agg [.int K,.int T,.int M,.e (.sl xe),.e (.sl ye),.int L,.int R],.int env,.e (.ia T1 c1),.e (.v .nilIface)] (.e (.ia T3 c3)):=by rw [<-b1];exact h323
      obtain ⟨⟨fn3,d3,hd3,hfr3,hm3,hp3⟩⟩:=b3
      have hm3:MRow P T3 "loop.example/s0035/impl.width" fn3:=hP▸hm3
      have hw3:0<=w3/\w3<=1048576:=by rw [<-b2];exact hos.2
      obtain ⟨ew,hew⟩: ∃z,z=A.add w3 env:=⟨_,rfl⟩
      have hew2:ew=w3+env:=by rw [hew,hA.add]
      rw [<-hew2] at hres
      by_cases h200:200<ew
      ·have vw:A.lt 200 ew=true:=by rw [hA.lt];exact decide_eq_true h200
       have hr2:res= .v .nilIface:=by rw [hres,if_pos h200];rfl
       clear hres hsL hsR ho
       cbv
       repeat' first | exact W1 | (simp only [<-hew,vw];cbv) | refine WA ?_ ?_ | with_reducible intro hcc | refine WS ?_ | (refine hA.RowE hi q1 ?_;cbv) | ((with_reducible refine hA.st [_,_,_,_,_,_,_] _ _ _ _ ⟨?_,fun ds hds=>?_⟩);rotate_left;subst hds;cbv) | ((with_reducible first | refine callK_f hA hP h322 ?_ ?_ ?_ | refine callK_f hA hP h251 ?_ ?_ ?_ | refine callK_f hA hP h252 ?_ ?_ ?_ | refine callK_f hA hP h253 ?_ ?_ ?_ | refine callK_f hA hP ihL ?_ ?_ ?_ | refine callK_f hA hP h323 ?_ ?_ ?_);exact rfl;exact rfl;cbv) | ((with_reducible refine hA.invk hm3 hd3 ?_);cbv) | ((with_reducible show A.call _ _ _ _ _ fn3 _ _ _);refine callK_eq hA hP hfr3 rfl ?_ (Wks.refl _) (fun _ _=>hp3);cbv) | refine W6 ?_ | ((with_reducible first | refine hA.Off fun b hb=>?_ | refine hA.Plus fun b hb=>?_ | refine hA.gb _ _ fun vb hvb=>?_);cbv) | ((with_reducible first | refine hA.Sto ?_ fun ds hds=>?_ | refine hA.Sapp ?_ fun sl hsl=>?_);rotate_left;cbv) | refine WL ?_ | fail
       all_goals try simp only [hA.sm,n_cast] at *
       all_goals first | omega | rfl | trivial | (rw [hr2];done) | (simp;done) | exact gg1 _ | exact gg2 _ | exact gg3 _
      ·have vw:A.lt 200 ew=false:=by rw [hA.lt];exact decide_eq_false h200
       have hr2:res= .ia T3 c3:=by rw [hres,if_neg h200,optE,b1]
       clear hres hsL hsR ho
       cbv
       repeat' first | exact W1 | (simp only [<-hew,vw];cbv) | refine WA ?_ ?_ | with_reducible intro hcc | refine WS ?_ | (refine hA.RowE hi q1 ?_;cbv) | ((with_reducible refine hA.st [_,_,_,_,_,_,_] _ _ _ _ ⟨?_,fun ds hds=>?_⟩);rotate_left;subst hds;cbv) | ((with_reducible first | refine callK_f hA hP h322 ?_ ?_ ?_ | refine callK_f hA hP h251 ?_ ?_ ?_ | refine callK_f hA hP h252 ?_ ?_ ?_ | refine callK_f hA hP h253 ?_ ?_ ?_ | refine callK_f hA hP ihL ?_ ?_ ?_ | refine callK_f hA hP h323 ?_ ?_ ?_);exact rfl;exact rfl;cbv) | ((with_reducible refine hA.invk hm3 hd3 ?_);cbv) | ((with_reducible show A.call _ _ _ _ _ fn3 _ _ _);refine callK_eq hA hP hfr3 rfl ?_ (Wks.refl _) (fun _ _=>hp3);cbv) | refine W6 ?_ | ((with_reducible first | refine hA.Off fun b hb=>?_ | refine hA.Plus fun b hb=>?_ | refine hA.gb _ _ fun vb hvb=>?_);cbv) | ((with_reducible first | refine hA.Sto ?_ fun ds hds=>?_ | refine hA.Sapp ?_ fun sl hsl=>?_);rotate_left;cbv) | refine WL ?_ | fail
       all_goals try simp only [hA.sm,n_cast] at *
       all_goals first | omega | rfl | trivial | (rw [hr2];done) | (simp;done) | exact gg1 _ | exact gg2 _ | exact gg3 _
    ·simp only [if_true] at hres
     obtain ⟨⟨fn1,d1,hd1,hfr1,hm1,hp1⟩⟩:=a3
     have hm1:MRow P T1 "loop.example/s0035/impl.width" fn1:=hP▸hm1
     have hw1:0<=w1/\w1+env<=200:=by rw [<-a2];exact hs1.2
     obtain ⟨e2,he2⟩: ∃z,z=if bD=true then env+w1 else env:=⟨_,rfl⟩
     have he2':0<=e2/\e2<=200:=by rw [he2];split <;>omega
     rw [<-he2] at hres
     have ihR:=ihR e2 rfl he2'.1 he2'.2
     have hsR:=hsR e2
     obtain ⟨gr,hgr⟩: ∃g,g=gR e2:=⟨_,rfl⟩
     rw [<-hgr] at hres ihR hsR
     clear hgr
     have hv2:bD=true->A.add env w1=e2:=fun h=>by rw [hA.add,he2,if_pos h]
     cases gr with
     | none=>
      have ihR:Plain Tryz.prog 87 [.agg [.e (.sl x),.e (.sl xt),.e (.sl xst)],.int R,.int e2] (.e (.v .nilIface)):=ihR
      have hr2:res= .v .nilIface:=hres
      clear hres hsL hsR h323
      cases bD
      ·have he3:e2=env:=by rw [he2];simp
       rw [he3] at ihR
       clear he2 hv2 he2'
       cbv
       repeat' first | exact W1 | refine WA ?_ ?_ | with_reducible intro hcc | refine WS ?_ | (refine hA.RowE hi q1 ?_;cbv) | ((with_reducible refine hA.st [_,_,_,_,_,_,_] _ _ _ _ ⟨?_,fun ds hds=>?_⟩);rotate_left;subst hds;cbv) | refine WK hA hP ?_ | refine W6 ?_ | ((with_reducible first | refine hA.Off fun b hb=>?_ | refine hA.Plus fun b hb=>?_ | refine hA.gb _ _ fun vb hvb=>?_);cbv) | ((with_reducible first | refine hA.Sto ?_ fun ds hds=>?_ | refine hA.Sapp ?_ fun sl hsl=>?_);rotate_left;cbv) | refine WL ?_ | fail
       all_goals try simp only [hA.sm,n_cast] at *
       all_goals first | omega | rfl | trivial | (rw [hr2];done) | (simp;done) | exact gg1 _ | exact gg2 _ | exact gg3 _
      ·have hv2:=hv2 rfl
       clear he2
       cbv
       repeat' first | exact W1 | (simp only [hv2];cbv) | refine WA ?_ ?_ | with_reducible intro hcc | refine WS ?_ | (refine hA.RowE hi q1 ?_;cbv) | ((with_reducible refine hA.st [_,_,_,_,_,_,_] _ _ _ _ ⟨?_,fun ds hds=>?_⟩);rotate_left;subst hds;cbv) | ((with_reducible first | refine callK_f hA hP h322 ?_ ?_ ?_ | refine callK_f hA hP h251 ?_ ?_ ?_ | refine callK_f hA hP h252 ?_ ?_ ?_ | refine callK_f hA hP h253 ?_ ?_ ?_ | refine callK_f hA hP ihL ?_ ?_ ?_ | refine callK_f hA hP ihR ?_ ?_ ?_);exact rfl;exact rfl;cbv) | ((with_reducible refine hA.invk hm1 hd1 ?_);cbv) | ((with_reducible show A.call _ _ _ _ _ fn1 _ _ _);refine callK_eq hA hP hfr1 rfl ?_ (Wks.refl _) (fun _ _=>hp1);cbv) | refine W6 ?_ | ((with_reducible first | refine hA.Off fun b hb=>?_ | refine hA.Plus fun b hb=>?_ | refine hA.gb _ _ fun vb hvb=>?_);cbv) | ((with_reducible first | refine hA.Sto ?_ fun ds hds=>?_ | refine hA.Sapp ?_ fun sl hsl=>?_);rotate_left;cbv) | refine WL ?_ | fail
       all_goals try simp only [hA.sm,n_cast] at *
       all_goals first | omega | rfl | trivial | (rw [hr2];done) | (simp;done) | exact gg1 _ | exact gg2 _ | exact gg3 _
     | some r=>
      have hs2:=hsR r he2'.1 rfl
      obtain ⟨T2,c2,w2,a4,a5,a6⟩:=wid_of hs2.1 (by omega)
      have ihR:Plain Tryz.prog 87 [.agg [.e (.sl x),.e (.sl xt),.e (.sl xst)],.int R,.int e2] (.e (.ia T2 c2)):=by rw [<-a4];exact ihR
      simp only at hres
      cases bD
      ·have he3:e2=env:=by rw [he2];simp
       rw [he3] at ihR
       clear he2 hv2
       have h323:=h323 (l) (r) (.ia T1 c1) (.ia T2 c2) (fun _=>⟨a1.symm,hs1.1,by omega⟩) (fun _=>⟨a4.symm,hs2.1,by omega⟩)
       cases ho:ndO ⟨K,T,M,Ex,Exs,L,R⟩ ts env (l) (r) with
       | none=>
        rw [ho] at h323 hres
        have h323:Plain Tryz.prog 164 [.agg [.e (.sl x),.e (.sl xt),.e (.sl xst)],.agg [.int K,.int T,.int M,.e (.sl xe),.e (.sl ye),.int L,.int R],.int env,.e (.ia T1 c1),.e (.ia T2 c2)] (.e (.v .nilIface)):=h323
        have hr2:res= .v .nilIface:=hres
        clear hres hsL hsR ho
        cbv
        repeat' first | exact W1 | refine WA ?_ ?_ | with_reducible intro hcc | refine WS ?_ | (refine hA.RowE hi q1 ?_;cbv) | ((with_reducible refine hA.st [_,_,_,_,_,_,_] _ _ _ _ ⟨?_,fun ds hds=>?_⟩);rotate_left;subst hds;cbv) | refine WK hA hP ?_ | ((with_reducible refine hA.anyd _ (.int 0) ?_);cbv) | ((with_reducible show A.call _ _ _ _ false _ _ _ _);refine callK_no hA (.int 0) ?_;cbv) | refine W6 ?_ | ((with_reducible first | refine hA.Off fun b hb=>?_ | refine hA.Plus fun b hb=>?_ | refine hA.gb _ _ fun vb hvb=>?_);cbv) | ((with_reducible first | refine hA.Sto ?_ fun ds hds=>?_ | refine hA.Sapp ?_ fun sl hsl=>?_);rotate_left;cbv) | refine WL ?_ | fail
        all_goals try simp only [hA.sm,n_cast] at *
        all_goals first | omega | rfl | trivial | (rw [hr2];done) | (simp;done) | exact gg1 _ | exact gg2 _ | exact gg3 _
       | some o=>
        rw [ho] at h323 hres
        have hos:=nd_sm ho ⟨hs1.1,by omega⟩ ⟨hs2.1,by omega⟩ z2 hct
        obtain ⟨T3,c3,w3,b1,b2,b3⟩:=wid_of hos.1 hos.2
        simp only [b2] at hres
        have h323:Plain Tryz.prog 164 [.agg [.e (.sl x),.e (.sl xt),.e (.sl xst)],.agg [.int K,.int T,.int M,.e (.sl xe),.e (.sl ye),.int L,.int R],.int env,.e (.ia T1 c1),.e (.ia T2 c2)] (.e (.ia T3 c3)):=by rw [<-b1];exact h323
        obtain ⟨⟨fn3,d3,hd3,hfr3,hm3,hp3⟩⟩:=b3
        have hm3:MRow P T3 "loop.example/s0035/impl.width" fn3:=hP▸hm3
        have hw3:0<=w3/\w3<=1048576:=by rw [<-b2];exact hos.2
        obtain ⟨ew,hew⟩: ∃z,z=A.add w3 env:=⟨_,rfl⟩
        have hew2:ew=w3+env:=by rw [hew,hA.add]
        rw [<-hew2] at hres
        by_cases h200:200<ew
        ·have vw:A.lt 200 ew=true:=by rw [hA.lt];exact decide_eq_true h200
         have hr2:res= .v .nilIface:=by rw [hres,if_pos h200];rfl
         clear hres hsL hsR ho
         cbv
         repeat' first | exact W1 | (simp only [<-hew,vw];cbv) | refine WA ?_ ?_ | with_reducible intro hcc | refine WS ?_ | (refine hA.RowE hi q1 ?_;cbv) | ((with_reducible refine hA.st [_,_,_,_,_,_,_] _ _ _ _ ⟨?_,fun ds hds=>?_⟩);rotate_left;subst hds;cbv) | ((with_reducible first | refine callK_f hA hP h322 ?_ ?_ ?_ | refine callK_f hA hP h251 ?_ ?_ ?_ | refine callK_f hA hP h252 ?_ ?_ ?_ | refine callK_f hA hP h253 ?_ ?_ ?_ | refine callK_f hA hP ihL ?_ ?_ ?_ | refine callK_f hA hP ihR ?_ ?_ ?_ | refine callK_f hA hP h323 ?_ ?_ ?_);exact rfl;exact rfl;cbv) | ((with_reducible refine hA.invk hm3 hd3 ?_);cbv) | ((with_reducible show A.call _ _ _ _ _ fn3 _ _ _);refine callK_eq hA hP hfr3 rfl ?_ (Wks.refl _) (fun _ _=>hp3);cbv) | refine W6 ?_ | ((with_reducible first | refine hA.Off fun b hb=>?_ | refine hA.Plus fun b hb=>?_ | refine hA.gb _ _ fun vb hvb=>?_);cbv) | ((with_reducible first | refine hA.Sto ?_ fun ds hds=>?_ | refine hA.Sapp ?_ fun sl hsl=>?_);rotate_left;cbv) | refine WL ?_ | fail
         all_goals try simp only [hA.sm,n_cast] at *
         all_goals first | omega | rfl | trivial | (rw [hr2];done) | (simp;done) | exact gg1 _ | exact gg2 _ | exact gg3 _
        ·have vw:A.lt 200 ew=false:=by rw [hA.lt];exact decide_eq_false h200
         have hr2:res= .ia T3 c3:=by rw [hres,if_neg h200,optE,b1]
         clear hres hsL hsR ho
         cbv
         repeat' first | exact W1 | (simp only [<-hew,vw];cbv) | refine WA ?_ ?_ | with_reducible intro hcc | refine WS ?_ | (refine hA.RowE hi q1 ?_;cbv) | ((with_reducible refine hA.st [_,_,_,_,_,_,_] _ _ _ _ ⟨?_,fun ds hds=>?_⟩);rotate_left;subst hds;cbv) | ((with_reducible first | refine callK_f hA hP h322 ?_ ?_ ?_ | refine callK_f hA hP h251 ?_ ?_ ?_ | refine callK_f hA hP h252 ?_ ?_ ?_ | refine callK_f hA hP h253 ?_ ?_ ?_ | refine callK_f hA hP ihL ?_ ?_ ?_ | refine callK_f hA hP ihR ?_ ?_ ?_ | refine callK_f hA hP h323 ?_ ?_ ?_);exact rfl;exact rfl;cbv) | ((with_reducible refine hA.invk hm3 hd3 ?_);cbv) | ((with_reducible show A.call _ _ _ _ _ fn3 _ _ _);refine callK_eq hA hP hfr3 rfl ?_ (Wks.refl _) (fun _ _=>hp3);cbv) | refine W6 ?_ | ((with_reducible first | refine hA.Off fun b hb=>?_ | refine hA.Plus fun b hb=>?_ | refine hA.gb _ _ fun vb hvb=>?_);cbv) | ((with_reducible first | refine hA.Sto ?_ fun ds hds=>?_ | refine hA.Sapp ?_ fun sl hsl=>?_);rotate_left;cbv) | refine WL ?_ | fail
         all_goals try simp only [hA.sm,n_cast] at *
         all_goals first | omega | rfl | trivial | (rw [hr2];done) | (simp;done) | exact gg1 _ | exact gg2 _ | exact gg3 _
      ·have hv2:=hv2 rfl
       clear he2
       have h323:=h323 (l) (r) (.ia T1 c1) (.ia T2 c2) (fun _=>⟨a1.symm,hs1.1,by omega⟩) (fun _=>⟨a4.symm,hs2.1,by omega⟩)
       cases ho:ndO ⟨K,T,M,Ex,Exs,L,R⟩ ts env (l) (r) with
       | none=>
        rw [ho] at h323 hres
        have h323:Plain Tryz.prog 164 [.agg [.e (.sl x),.e (.sl xt),.e (.sl xst)],.agg [.int K,.int T,.int M,.e (.sl xe),.e (.sl ye),.int L,.int R],.int env,.e (.ia T1 c1),.e (.ia T2 c2)] (.e (.v .nilIface)):=h323
        have hr2:res= .v .nilIface:=hres
        clear hres hsL hsR ho
        cbv
        repeat' first | exact W1 | (simp only [hv2];cbv) | refine WA ?_ ?_ | with_reducible intro hcc | refine WS ?_ | (refine hA.RowE hi q1 ?_;cbv) | ((with_reducible refine hA.st [_,_,_,_,_,_,_] _ _ _ _ ⟨?_,fun ds hds=>?_⟩);rotate_left;subst hds;cbv) | ((with_reducible first | refine callK_f hA hP h322 ?_ ?_ ?_ | refine callK_f hA hP h251 ?_ ?_ ?_ | refine callK_f hA hP h252 ?_ ?_ ?_ | refine callK_f hA hP h253 ?_ ?_ ?_ | refine callK_f hA hP ihL ?_ ?_ ?_ | refine callK_f hA hP ihR ?_ ?_ ?_);exact rfl;exact rfl;cbv) | ((with_reducible refine hA.invk hm1 hd1 ?_);cbv) | ((with_reducible show A.call _ _ _ _ _ fn1 _ _ _);refine callK_eq hA hP hfr1 rfl ?_ (Wks.refl _) (fun _ _=>hp1);cbv) | ((with_reducible first | refine callK_f hA hP h323 ?_ ?_ ?_);exact rfl;exact rfl;cbv) | ((with_reducible refine hA.anyd _ (.int 0) ?_);cbv) | ((with_reducible show A.call _ _ _ _ false _ _ _ _);refine callK_no hA (.int 0) ?_;cbv) | refine W6 ?_ | ((with_reducible first | refine hA.Off fun b hb=>?_ | refine hA.Plus fun b hb=>?_ | refine hA.gb _ _ fun vb hvb=>?_);cbv) | ((with_reducible first | refine hA.Sto ?_ fun ds hds=>?_ | refine hA.Sapp ?_ fun sl hsl=>?_);rotate_left;cbv) | refine WL ?_ | fail
        all_goals try simp only [hA.sm,n_cast] at *
        all_goals first | omega | rfl | trivial | (rw [hr2];done) | (simp;done) | exact gg1 _ | exact gg2 _ | exact gg3 _
       | some o=>
        rw [ho] at h323 hres
        have hos:=nd_sm ho ⟨hs1.1,by omega⟩ ⟨hs2.1,by omega⟩ z2 hct
        obtain ⟨T3,c3,w3,b1,b2,b3⟩:=wid_of hos.1 hos.2
        simp only [b2] at hres
        have h323:Plain Tryz.prog 164 [.agg [.e (.sl x),.e (.sl xt),.e (.sl xst)],.agg [.int K,.int T,.int M,.e (.sl xe),.e (.sl ye),.int L,.int R],.int env,.e (.ia T1 c1),.e (.ia T2 c2)] (.e (.ia T3 c3)):=by rw [<-b1];exact h323
        obtain ⟨⟨fn3,d3,hd3,hfr3,hm3,hp3⟩⟩:=b3
        have hm3:MRow P T3 "loop.example/s0035/impl.width" fn3:=hP▸hm3
        have hw3:0<=w3/\w3<=1048576:=by rw [<-b2];exact hos.2
        obtain ⟨ew,hew⟩: ∃z,z=A.add w3 env:=⟨_,rfl⟩
        have hew2:ew=w3+env:=by rw [hew,hA.add]
        rw [<-hew2] at hres
        by_cases h200:200<ew
        ·have vw:A.lt 200 ew=true:=by rw [hA.lt];exact decide_eq_true h200
         have hr2:res= .v .nilIface:=by rw [hres,if_pos h200];rfl
         clear hres hsL hsR ho
         cbv
         repeat' first | exact W1 | (simp only [hv2,<-hew,vw];cbv) | refine WA ?_ ?_ | with_reducible intro hcc | refine WS ?_ | (refine hA.RowE hi q1 ?_;cbv) | ((with_reducible refine hA.st [_,_,_,_,_,_,_] _ _ _ _ ⟨?_,fun ds hds=>?_⟩);rotate_left;subst hds;cbv) | ((with_reducible first | refine callK_f hA hP h322 ?_ ?_ ?_ | refine callK_f hA hP h251 ?_ ?_ ?_ | refine callK_f hA hP h252 ?_ ?_ ?_ | refine callK_f hA hP h253 ?_ ?_ ?_ | refine callK_f hA hP ihL ?_ ?_ ?_ | refine callK_f hA hP ihR ?_ ?_ ?_);exact rfl;exact rfl;cbv) | ((with_reducible refine hA.invk hm1 hd1 ?_);cbv) | ((with_reducible show A.call _ _ _ _ _ fn1 _ _ _);refine callK_eq hA hP hfr1 rfl ?_ (Wks.refl _) (fun _ _=>hp1);cbv) | ((with_reducible first | refine callK_f hA hP h323 ?_ ?_ ?_);exact rfl;exact rfl;cbv) | ((with_reducible refine hA.invk hm3 hd3 ?_);cbv) | ((with_reducible show A.call _ _ _ _ _ fn3 _ _ _);refine callK_eq hA hP hfr3 rfl ?_ (Wks.refl _) (fun _ _=>hp3);cbv) | refine W6 ?_ | ((with_reducible first | refine hA.Off fun b hb=>?_ | refine hA.Plus fun b hb=>?_ | refine hA.gb _ _ fun vb hvb=>?_);cbv) | ((with_reducible first | refine hA.Sto ?_ fun ds hds=>?_ | refine hA.Sapp ?_ fun sl hsl=>?_);rotate_left;cbv) | refine WL ?_ | fail
         all_goals try simp only [hA.sm,n_cast] at *
         all_goals first | omega | rfl | trivial | (rw [hr2];done) | (simp;done) | exact gg1 _ | exact gg2 _ | exact gg3 _
        ·have vw:A.lt 200 ew=false:=by rw [hA.lt];exact decide_eq_false h200
         have hr2:res= .ia T3 c3:=by rw [hres,if_neg h200,optE,b1]
         clear hres hsL hsR ho
         cbv
         repeat' first | exact W1 | (simp only [hv2,<-hew,vw];cbv) | refine WA ?_ ?_ | with_reducible intro hcc | refine WS ?_ | (refine hA.RowE hi q1 ?_;cbv) | ((with_reducible refine hA.st [_,_,_,_,_,_,_] _ _ _ _ ⟨?_,fun ds hds=>?_⟩);rotate_left;subst hds;cbv) | ((with_reducible first | refine callK_f hA hP h322 ?_ ?_ ?_ | refine callK_f hA hP h251 ?_ ?_ ?_ | refine callK_f hA hP h252 ?_ ?_ ?_ | refine callK_f hA hP h253 ?_ ?_ ?_ | refine callK_f hA hP ihL ?_ ?_ ?_ | refine callK_f hA hP ihR ?_ ?_ ?_);exact rfl;exact rfl;cbv) | ((with_reducible refine hA.invk hm1 hd1 ?_);cbv) | ((with_reducible show A.call _ _ _ _ _ fn1 _ _ _);refine callK_eq hA hP hfr1 rfl ?_ (Wks.refl _) (fun _ _=>hp1);cbv) | ((with_reducible first | refine callK_f hA hP h323 ?_ ?_ ?_);exact rfl;exact rfl;cbv) | ((with_reducible refine hA.invk hm3 hd3 ?_);cbv) | ((with_reducible show A.call _ _ _ _ _ fn3 _ _ _);refine callK_eq hA hP hfr3 rfl ?_ (Wks.refl _) (fun _ _=>hp3);cbv) | refine W6 ?_ | ((with_reducible first | refine hA.Off fun b hb=>?_ | refine hA.Plus fun b hb=>?_ | refine hA.gb _ _ fun vb hvb=>?_);cbv) | ((with_reducible first | refine hA.Sto ?_ fun ds hds=>?_ | refine hA.Sapp ?_ fun sl hsl=>?_);rotate_left;cbv) | refine WL ?_ | fail
         all_goals try simp only [hA.sm,n_cast] at *
         all_goals first | omega | rfl | trivial | (rw [hr2];done) | (simp;done) | exact gg1 _ | exact gg2 _ | exact gg3 _
end Go.Proofs.YtfplalbognalkaaGreat.Ab
/- Buffers of numbers. -/
namespace Go.Proofs.YtfplalbognalkaaGreat.Ab
open Go
def dsI (c:List Int):List D:=c.map fun k=> .int k
theorem dsI_len (c:List Int):(dsI c).length=c.length:=by simp [dsI]
theorem dsI_ren (t:RF) (c:List Int):rens t (dsI c)=dsI c:=by
 induction c with
 | nil=>rfl
 | cons r c ih=>show D.int r::rens t (dsI c)=_;rw [ih];rfl
theorem dsI_lt (m:Nat) (c:List Int):lts m (dsI c)=true:=by
 induction c with
 | nil=>rfl
 | cons r c ih=>show (true&&lts m (dsI c))=true;rw [ih];rfl
theorem dsI_get {c:List Int} {ds:List D} {off:Nat} {d:D} {v:Int} (hd:ds=dsI c) (ho:c[off]?=some v) (h:d=ds.getD off default):d= .int v:=by
 subst hd
 rw [h]
 simp [dsI,List.getD,ho]
theorem dsI_set {c:List Int} {ds ds':List D} {off:Nat} {r:Int} (hd:ds=dsI c) (ho:off<c.length) (h:ds'=ds.take off++ [D.int r]++ds.drop (off+1)):ds'=dsI (c.set off r):=by
 subst hd
 rw [h,dsI,dsI,List.map_set,List.set_eq_take_append_cons_drop,if_pos (by simpa using ho)]
 simp
theorem dsI_flat (c:List Int):dsI c=(c.map ir).flatten.map D.e:=by
 induction c with
 | nil=>rfl
 | cons a c ih=>show D.int a::dsI c=_;rw [ih];rfl
theorem rep_dsI (n:Nat):(List.replicate n [D.int 0]).flatten=dsI (List.replicate n 0):=by
 induction n with
 | zero=>rfl
 | succ n ih=>rw [List.replicate_succ,List.flatten_cons,ih];rfl
end Go.Proofs.YtfplalbognalkaaGreat.Ab
/- Several results, each taken for less. -/
namespace Go.Proofs.YtfplalbognalkaaGreat.Ab
open Go
theorem fin_tup {l:List O} {ds' ds:List D} (h:ds'.map D.pl=ds) (hf:(D.tup ds).free=true):FinW l (.tup ds') (.tup ds):=by
 intro w G v hi hr
 refine ⟨G,?_,inv_nil hi,fun w0 G0 e=>?_⟩
 ·have:Rv w G (hpF l) v (.tup ds):=by
   subst h
   cases hr with
   | tup hl hr=>
    refine .tup (by rw [List.length_map];exact hl) fun j c d hc hd=>?_
    rw [List.getElem?_map] at hd
    cases hq:ds'[j]? with
    | none=>rw [hq] at hd;simp at hd
    | some d0=>
     rw [hq] at hd
     cases hd
     exact (hr j c d0 hc hq).pl
  exact this.free hf rfl rfl
 ·rw [hpF_nil] at e ⊢
  exact ⟨e.os,e.tape,e.output,e.size,e.pub,fun i ds h=>by simp at h,fun i n k h=>by simp at h,e.others,fun i h=>by simp [O.has] at h,e.pubnew,fun i b k ds h=>by simp at h,fun i h=>by simp at h,fun i l h=>by simp at h,e.sgm,fun i m h=>by simp at h,fun i R h=>by simp at h,fun i R h=>by simp at h,fun i m h=>by simp at h,e.sgn,e.sgw⟩
theorem Ar.Ok.fin_tup {A:Ar} (h:A.Ok) (l:List O) (ds' ds:List D) (e:ds'.map D.pl=ds):A.fin l (.tup ds') (.tup ds):=h.fin _ _ _ fun hf=>Ab.fin_tup e hf
end Go.Proofs.YtfplalbognalkaaGreat.Ab
/- Plans: where stretches begin, by the program. -/
namespace Go.Proofs.YtfplalbognalkaaGreat.Ab
open Go
theorem fin_tup2 {l:List O} {d' d:D} {x:Value} (h:FinW l d' d):FinW l (.tup [d',.e (.v x)]) (.tup [d,.e (.v x)]):=by
 intro w G v hi hr
 cases hr with
 | tup hl hr=>
  rename_i cs
  have h2:cs.size=2:=hl
  have r0:=hr 0 cs[0] d' (by simp [h2]) rfl
  have r1:=hr 1 cs[1] _ (by simp [h2]) rfl
  obtain ⟨G',a,b,c⟩:=h w G cs[0] hi r0
  refine ⟨G',.tup hl fun j c d hc hd=>?_,b,c⟩
  match j with
  | 0=>simp [h2] at hc;simp at hd;subst hc;subst hd;exact a
  | 1=>
   simp [h2] at hc;simp at hd;subst hc;subst hd
   obtain ⟨e1,e2⟩:=rv_v r1
   rw [e1];exact .e (.v e2)
  | j+2=>simp at hd
theorem Ar.Ok.fin_tupbs {A:Ar} (h:A.Ok) {l:List O} {i n k:Nat} {es:List (List E)} {x:Value} (hb:hpF l i= .box (es.flatten.map .e)) (hn:es.length=n) (hk: ∀e∈es,e.length=k):A.fin l (.tup [.bs i 0 n k,.e (.v x)]) (.tup [.e (.sl es),.e (.v x)]):=
 h.fin _ _ _ fun _=>Ab.fin_tup2 (Ab.fin_bs hb hn hk)
def frS (d:Pd) (f:Int->Int) (i:Int):Int:=
 if¬(1<=d.K/\d.K<=10) then-1 else
 if hasR d.K then (if 1<=i/\d.R=i-1 then (if hasL d.K then (if 1<=f (i-1)/\d.L=f (i-1)-1 then f (f (i-1)-1) else-1) else if d.L=0 then f (i-1) else-1) else-1)
 else if d.R=0 then (if hasL d.K then (if 1<=i/\d.L=i-1 then f (i-1) else-1) else if d.L=0 then i else-1) else-1
theorem fr_step (d:Pd) (f:Int->Int) (i:Int) (hf: ∀j,0<=j->j<i->0<=f j/\f j<=j):(if formP d=true then chain f (kidsP d) i else-1)=frS d f i:=by
 obtain ⟨K,T,M,Ex,Exs,L,R⟩:=d
 unfold frS formP kidsP
 simp only
 by_cases hK:1<=K/\K<=10
 case neg=>rw [if_pos hK,decide_eq_false hK];simp
 rw [decide_eq_true hK,Bool.true_and,if_neg (show¬ ¬(1<=K/\K<=10) from fun h=>h hK)]
 by_cases h:1<=i
 ·have h1:=hf (i-1) (by omega) (by omega)
  obtain ⟨a,ha⟩: ∃a,a=f (i-1):=⟨_,rfl⟩
  rw [<-ha] at h1 ⊢
  have h2:1<=a->0<=f (a-1):=fun q=>(hf (a-1) (by omega) (by omega)).1
  obtain ⟨b,hb⟩: ∃b,b=f (a-1):=⟨_,rfl⟩
  rw [<-hb] at h2 ⊢
  cases hasR K <;>cases hasL K
  all_goals
   simp only [Bool.false_or,Bool.true_or,Bool.true_and,Bool.and_true,Bool.false_eq_true,if_false,if_true,List.nil_append,List.append_nil,List.singleton_append,chain,<-ha,<-hb,decide_eq_true_eq,Bool.and_eq_true]
   clear ha hb hf hK
   grind
 ·cases hasR K <;>cases hasL K
  all_goals
   simp only [Bool.false_or,Bool.true_or,Bool.true_and,Bool.and_true,Bool.false_eq_true,if_false,if_true,List.nil_append,List.append_nil,List.singleton_append,chain,decide_eq_true_eq,Bool.and_eq_true]
   clear hf hK
   grind
theorem kid_side {p a a':Int} {n:Nat} {c:List Int} {ds:List D} (hd:ds=dsI c) (b:Bool):Side (fun t=> [.int p,.ref (t 0) 0,.ref (t 1) 0]) (fun t=> [.box [.int a],.box [.bs (t 2) 0 n 1],.box ds]) (fun _=> .bool b) (fun t=> [.box [.int a'],.box [.bs (t 2) 0 n 1],.box ds]):=by
 subst hd
 exact ⟨fun t=>rfl,rfl,fun t=>by simp only [List.map_cons,List.map_nil,O.ren,dsI_ren];rfl,by
  intro o ho
  simp only [List.mem_cons,List.not_mem_nil,or_false] at ho
  rcases ho with rfl | rfl | rfl
  ·rfl
  ·rfl
  ·simp only [O.lt,dsI_lt],fun t=>rfl,fun t=>by simp only [List.map_cons,List.map_nil,O.ren,dsI_ren];rfl,by simp⟩
theorem kid_fin {A:Ar} (hA:A.Ok) {a a':Int} {n:Nat} {c:List Int} {ds:List D} (hd:ds=dsI c) {l':List O} {b:Bool} {d':D} (h0:hpF l' 0= .box [.int a']) (h1:hpF l' 1= .box [.bs 2 0 n 1]) (h2:hpF l' 2= .box ds) (hb: .bool b=d'):A.finv [.box [.int a],.box [.bs 2 0 n 1],.box ds] l' d' [.box [.int a'],.box [.bs 2 0 n 1],.box ds] (.bool b):=by
 subst hd
 exact hA.finv _ _ _ _ _ (FinV.ren [0,1,2] (fun t=> [.box [.int a'],.box [.bs (t 2) 0 n 1],.box (dsI c)]) (fun _=> .bool b) rfl (.inl hb) ⟨h0,h1,h2,trivial⟩ (fun t=>rfl) rfl (fun t=>by simp only [List.map_cons,List.map_nil,O.ren,dsI_ren];rfl) (by
  intro o ho
  simp only [List.mem_cons,List.not_mem_nil,or_false] at ho
  rcases ho with rfl | rfl | rfl
  ·rfl
  ·rfl
  ·simp only [O.lt,dsI_lt]))
theorem ok162 (p a a2 v:Int) (n:Nat) (c:List Int) (ds:List D) (hd:ds=dsI c) (hn:n=c.length) (hn2:n<=2000) (ha: -1<=a/\a<=n) (ok:Bool) (hok:ok=decide (1<=a/\p=a-1)) (hv:ok=true->c[p.toNat]?=some v) (ha2:a2=if ok then v else a):
  Proc Tryz.prog 162 (fun t=> [.int p,.ref (t 0) 0,.ref (t 1) 0]) (fun t=> [.box [.int a],.box [.bs (t 2) 0 n 1],.box ds]) (fun _=> .bool ok) (fun t=> [.box [.int a2],.box [.bs (t 2) 0 n 1],.box ds]):=by
 refine procOf mixed p162 (kid_side hd ok) fun A P hA hP=>?_
 obtain ⟨z,hz⟩: ∃z,z=A.sub a 1:=⟨_,rfl⟩
 have hz':z=a-1:=by rw [hz,hA.sub]
 rw [<-hz'] at hok
 by_cases h1:a<1
 ·have e1:A.lt a 1=true:=by rw [hA.lt];exact decide_eq_true h1
  have hf:ok=false:=by rw [hok];simp;omega
  subst hf
  rw [if_neg (by simp)] at ha2
  subst ha2
  cbv
  repeat' first | exact W1 | (simp only [e1,<-hz];cbv) | refine WA ?_ ?_ | with_reducible intro hcc | refine WS ?_ | refine W6 ?_ | ((with_reducible first | refine hA.Off fun b hb=>?_ | refine hA.gb _ _ fun vb hvb=>?_);cbv) | ((with_reducible first | refine hA.Sto ?_ fun ds hds=>?_);rotate_left;cbv) | refine WL ?_ | fail
  all_goals try simp only [hA.sm,n_cast] at *
  all_goals first | omega | exact kid_fin hA hd rfl rfl rfl rfl
 ·have e1:A.lt a 1=false:=by rw [hA.lt];exact decide_eq_false h1
  by_cases h2:p=z
  ·have e2:A.eq p z=true:=by rw [hA.eq];exact decide_eq_true h2
   have ht:ok=true:=by rw [hok];simp;omega
   subst ht
   rw [if_pos rfl] at ha2
   subst ha2
   have hg:=hv rfl
   have hdl:ds.length=n:=by rw [hd,dsI_len,hn]
   cbv
   repeat' first | exact W1 | (simp only [e1,<-hz,e2];cbv) | refine WA ?_ ?_ | with_reducible intro hcc | refine WS ?_ | ((with_reducible refine hA.ld1 _ _ _ ⟨?_,fun c hc=>?_⟩);rotate_left;(have e9:=dsI_get (v:=a2) hd (by rw [<-hg];congr 1;omega) hc);subst e9;cbv) | refine W6 ?_ | ((with_reducible first | refine hA.Off fun b hb=>?_ | refine hA.gb _ _ fun vb hvb=>?_);cbv) | ((with_reducible first | refine hA.Sto ?_ fun ds hds=>?_);rotate_left;cbv) | refine WL ?_ | fail
   all_goals try simp only [hA.sm,n_cast] at *
   all_goals first | omega | exact kid_fin hA hd rfl rfl rfl rfl
  ·have e2:A.eq p z=false:=by rw [hA.eq];exact decide_eq_false h2
   have hf:ok=false:=by rw [hok];simp;omega
   subst hf
   rw [if_neg (by simp)] at ha2
   subst ha2
   cbv
   repeat' first | exact W1 | (simp only [e1,<-hz,e2];cbv) | refine WA ?_ ?_ | with_reducible intro hcc | refine WS ?_ | refine W6 ?_ | ((with_reducible first | refine hA.Off fun b hb=>?_ | refine hA.gb _ _ fun vb hvb=>?_);cbv) | ((with_reducible first | refine hA.Sto ?_ fun ds hds=>?_);rotate_left;cbv) | refine WL ?_ | fail
   all_goals try simp only [hA.sm,n_cast] at *
   all_goals first | omega | exact kid_fin hA hd rfl rfl rfl rfl
theorem fok321:fOK Tryz.prog 162:=⟨_,Tryz.func162,by decide,rfl⟩
def allF (ns:List Pd):Prop:=(1<=ns.length/\ns.length<=2000)/\ ∀i,i<ns.length->0<=fr ns i
theorem ord_allF {ns:List Pd} :ordOk ns=true ↔ allF ns/\fr ns (ns.length-1)=0:=by
 constructor
 ·intro h
  have h2:=ord_all h
  simp only [ordOk,Bool.and_eq_true,decide_eq_true_eq] at h
  exact ⟨⟨h.1,h2⟩,h.2⟩
 ·intro ⟨h1,h2⟩
  simp only [ordOk,Bool.and_eq_true,decide_eq_true_eq]
  exact ⟨h1.1,h2⟩
theorem sb_side {env:RF->List (Nat×D)} {x:List (List E)} {c:List Int} {ds:List D} {n:Nat} (h1:ds=dsI c) (he: ∀t,env t=renEnv t (env id)) (hl:ltEnv 3 (env id)=true):SideW env (fun t=> [.box [.e (.sl x)],.box ds,.box [.bs (t 1) 0 n 1]]):=by
 subst h1
 exact ⟨he,hl,fun t=>by simp only [List.map_cons,List.map_nil,O.ren,dsI_ren];rfl,by
  intro o ho
  simp only [List.mem_cons,List.not_mem_nil,or_false] at ho
  rcases ho with rfl | rfl | rfl
  ·rfl
  ·simp only [O.lt,dsI_lt]
  ·rfl⟩
theorem ok86 (ns:List Pd) (x:List (List E)) (hx:x=ns.map pdr) (hxl:x.length<=1048576) (aok b:Bool) (haok:aok=true ↔ allF ns) (hord:b=ordOk ns) (xs:List (List E)) (hxs:xs=if aok then ((List.range ns.length).map (fr ns)).map ir else []):
  Plain Tryz.prog 86 [.agg [.e (.sl x)]] (.tup [.e (.sl xs),.bool b]):=okOf mixed p86 fun A P hA hP=>(by
 have hxn:x.length=ns.length:=by rw [hx];simp
 obtain ⟨ze,hze⟩: ∃z:Int,z=x.length:=⟨_,rfl⟩
 obtain ⟨n,hn⟩: ∃n:Nat,n=x.length:=⟨_,rfl⟩
 have hf': ∃func,P.funcs[162]?=some func/\ ¬func.name= "runtime.NumGoroutine" /\func.body.isNone=false:=hP▸fok321
 have hbad: ¬allF ns->xs= []/\b=false:=fun h=>by
  have h1:aok=false:=by cases aok <;>simp_all
  refine ⟨by rw [hxs,h1];rfl,?_⟩
  rw [hord]
  cases e:ordOk ns
  ·rfl
  ·exact absurd (ord_allF.1 e).1 h
 by_cases h1:ze<1
 ·have e1:A.lt ze 1=true:=by rw [hA.lt];exact decide_eq_true h1
  obtain ⟨rfl,rfl⟩:=hbad fun h=>by have:=h.1;omega
  cbv
  repeat' first | exact W1 | (simp only [e1];cbv) | refine WA ?_ ?_ | with_reducible intro hcc | refine WS ?_ | (with_reducible refine hA.fin_tup _ _ _ ?_) | (refine hA.LenE hze fun hb=>?_;cbv) | refine W6 ?_ | ((with_reducible first | refine hA.Len fun z hz hb=>?_ | refine hA.Off fun b hb=>?_ | refine hA.Plus fun b hb=>?_ | refine hA.Rep fun ds m hds hm=>?_ | refine hA.gb _ _ fun vb hvb=>?_);cbv) | ((with_reducible first | refine hA.Sto ?_ fun ds hds=>?_ | refine hA.Sapp ?_ fun sl hsl=>?_);rotate_left;cbv) | refine WL ?_ | fail
  all_goals try simp only [hA.sm,n_cast] at *
  all_goals first | omega | rfl | trivial
 have e1:A.lt ze 1=false:=by rw [hA.lt];exact decide_eq_false h1
 by_cases h2:2000<ze
 ·have e2:A.lt 2000 ze=true:=by rw [hA.lt];exact decide_eq_true h2
  obtain ⟨rfl,rfl⟩:=hbad fun h=>by have:=h.1;omega
  cbv
  repeat' first | exact W1 | (simp only [e1,e2];cbv) | refine WA ?_ ?_ | with_reducible intro hcc | refine WS ?_ | (with_reducible refine hA.fin_tup _ _ _ ?_) | (refine hA.LenE hze fun hb=>?_;cbv) | refine W6 ?_ | ((with_reducible first | refine hA.Len fun z hz hb=>?_ | refine hA.Off fun b hb=>?_ | refine hA.Plus fun b hb=>?_ | refine hA.Rep fun ds m hds hm=>?_ | refine hA.gb _ _ fun vb hvb=>?_);cbv) | ((with_reducible first | refine hA.Sto ?_ fun ds hds=>?_ | refine hA.Sapp ?_ fun sl hsl=>?_);rotate_left;cbv) | refine WL ?_ | fail
  all_goals try simp only [hA.sm,n_cast] at *
  all_goals first | omega | rfl | trivial
 have e2:A.lt 2000 ze=false:=by rw [hA.lt];exact decide_eq_false h2
 cbv
 repeat' first | exact W1 | (simp only [e1,e2];cbv) | refine WA ?_ ?_ | with_reducible intro hcc | refine WS ?_ | (refine hA.LenE hze fun hb=>?_;cbv) | ((with_reducible refine hA.rep _ _ _ fun ds m hds hm=>?_);(have e7:n=m:=(by rw [hn,hm,hze];rfl));subst e7;cbv) | refine W6 ?_ | ((with_reducible first | refine hA.Len fun z hz hb=>?_ | refine hA.Off fun b hb=>?_ | refine hA.Plus fun b hb=>?_ | refine hA.Rep fun ds m hds hm=>?_ | refine hA.gb _ _ fun vb hvb=>?_);cbv) | ((with_reducible first | refine hA.Sto ?_ fun ds hds=>?_ | refine hA.Sapp ?_ fun sl hsl=>?_);rotate_left;cbv) | refine WL ?_ | fail
 all_goals try simp only [hA.sm,n_cast] at *
 all_goals try omega
 rename_i ds0 hds0 _
 have e1:A.lt ze 1=false:=by rw [hA.lt];exact decide_eq_false h1
 refine hA.loopI (fun mm s=> ∃(i:Int) (c1:List Int) (ds1:List D),0<=i/\mm+i=x.length/\c1.length=n/\(∀j:Nat,(j:Int)<i->0<=fr ns j/\c1[j]?=some (fr ns j))/\ds1=dsI c1/\
   s=⟨[(26,.int i),(25,.int ze),(24,.e (.sl x)),(4,.ref 2 0),(1,.ref 0 0),(2,.zs),(3,.bool false)], [.box [.e (.sl x)],.box ds1,.box [.bs 1 0 n 1]]⟩) x.length _
  (Weak.keep (env':= [(26,.int 0),(25,.int ze),(24,.e (.sl x)),(4,.ref 2 0),(1,.ref 0 0),(2,.zs),(3,.bool false)]) ⟨rfl,rfl,rfl,rfl,rfl,rfl,rfl,trivial⟩)
  ⟨0,List.replicate n 0,_,by omega,by omega,by simp,(fun j h=>by omega),(by rw [<-rep_dsI n,show n=ze.toNat by omega];assumption),rfl⟩ ?_
 rintro m s K' ⟨i,c1,ds1,i0,i1,i2,i4,hd1,rfl⟩ hK
 have hl1:ds1.length=n:=by rw [hd1,dsI_len,i2]
 by_cases hi:(0:Int)<=i/\i<x.length
 case neg=>
  have e8:A.lt i ze=false:=by rw [hA.lt];exact decide_eq_false (by omega)
  have hall:allF ns:=⟨by omega,fun j hj=>(i4 j (by omega)).1⟩
  have hc1:c1=(List.range ns.length).map (fr ns):=by
   refine List.ext_getElem? fun j=>?_
   by_cases hj:j<ns.length
   ·rw [(i4 j (by omega)).2,List.getElem?_map,List.getElem?_range hj];rfl
   ·rw [List.getElem?_eq_none (by omega),List.getElem?_eq_none (by simp;omega)]
  have hxs2:xs=c1.map ir:=by rw [hxs,haok.2 hall,hc1];rfl
  obtain ⟨zl,hzl⟩: ∃z,z=A.sub ze 1:=⟨_,rfl⟩
  have hzl2:zl=ze-1:=by rw [hzl,hA.sub]
  obtain ⟨v,hv⟩: ∃v,v=fr ns (ns.length-1):=⟨_,rfl⟩
  have hg:c1[zl.toNat]?=some v:=by rw [show zl.toNat=ns.length-1 by omega,(i4 _ (by omega)).2,hv]
  have hb2:b=decide (v=0):=by
   rw [hord,hv]
   cases e:ordOk ns
   ·rw [eq_comm,decide_eq_false_iff_not];intro h;rw [ord_allF.2 ⟨hall,h⟩] at e;cases e
   ·rw [eq_comm,decide_eq_true_eq];exact (ord_allF.1 e).2
  have vb:A.eq v 0=b:=by rw [hA.eq,hb2]
  have hds:ds1=xs.flatten.map D.e:=by rw [hd1,hxs2,dsI_flat]
  have hxk: ∀e∈xs,e.length=1:=by rw [hxs2];intro e h;obtain ⟨q,_,rfl⟩:=List.mem_map.1 h;rfl
  have hnz:A.sub (n:Int) 1=zl:=by rw [hzl,show (n:Int)=ze by omega]
  have hnz2:A.sub (Int.ofNat n) 1=zl:=hnz
  clear hK i4 hv hb2 hord hxs hbad haok
  cbv
  repeat' first | exact W1 | (simp only [e8,hnz,hnz2,vb];cbv) | refine WA ?_ ?_ | with_reducible intro hcc | refine WS ?_ | ((with_reducible refine hA.fin_tupbs (es:=xs) ?_ ?_ hxk)) | ((with_reducible refine hA.ld1 _ _ _ ⟨?_,fun c hc=>?_⟩);rotate_left;(have e9:=dsI_get hd1 (show _=some v by rw [<-hg];congr 1;omega) hc);subst e9;cbv) | refine W6 ?_ | ((with_reducible first | refine hA.Len fun z hz hb=>?_ | refine hA.Off fun b hb=>?_ | refine hA.Plus fun b hb=>?_ | refine hA.Rep fun ds m hds hm=>?_ | refine hA.gb _ _ fun vb hvb=>?_);cbv) | ((with_reducible first | refine hA.Sto ?_ fun ds hds=>?_ | refine hA.Sapp ?_ fun sl hsl=>?_);rotate_left;cbv) | refine WL ?_ | fail
  all_goals try simp only [hA.sm,n_cast] at *
  all_goals first
   | omega
   | (rw [hds];rfl)
   | (rw [hxs2,List.length_map];exact i2)
   | (rw [hxs2];intro e h;obtain ⟨q,_,rfl⟩:=List.mem_map.1 h;rfl)
 case pos=>
  have e8:A.lt i ze=true:=by rw [hA.lt];exact decide_eq_true (by omega)
  obtain ⟨K,T,M,Ex,Exs,L,R,xe,ye,q0,qm,hxe,hye,q1⟩:=pd_at hx hi
  obtain ⟨f,hf⟩: ∃f:Int->Int,f=fun j=>fr ns j.toNat:=⟨_,rfl⟩
  have hfj: ∀j,0<=j->j<i->(0<=f j/\f j<=j)/\c1[j.toNat]?=some (f j):=fun j a b=>by
   have:=i4 j.toNat (by omega)
   have:=fr_le ns j.toNat
   rw [hf]
   refine ⟨⟨?_,?_⟩,?_⟩ <;>simp only <;>first | omega | (exact (i4 j.toNat (by omega)).2)
  obtain ⟨s0,hs0⟩: ∃s,s=fr ns i.toNat:=⟨_,rfl⟩
  have hst:s0=frS ⟨K,T,M,Ex,Exs,L,R⟩ f i:=by
   rw [hs0,fr_eq,q0,<-hf,show ((i.toNat:Nat):Int)=i by omega]
   exact fr_step _ f i fun j a b=>(hfj j a b).1
  have hbad2:s0= -1->xs= []/\b=false:=fun h=>hbad fun q=>by
   have:=q.2 i.toNat (by omega)
   omega
  have hok: ∀a:Int,s0=a->0<=a-> ∀env ds' o3 o4,ds'=dsI (c1.set i.toNat a)->subL [(26,.int (i+1)),(25,.int ze),(24,.e (.sl x)),(4,.ref 2 0),(1,.ref 0 0),(2,.zs),(3,.bool false)] env->K' ⟨env, [.box [.e (.sl x)],.box ds',.box [.bs 1 0 n 1],o3,o4]⟩:=fun a ha h0 env ds' o3 o4 hds hs=>by
   refine hK _ (m-1) _ (by omega) (Weak.ren (l0:= []) [0,1,2] (fun t=> [(26,.int (i+1)),(25,.int ze),(24,.e (.sl x)),(4,.ref (t 2) 0),(1,.ref (t 0) 0),(2,.zs),(3,.bool false)]) (fun t=> [.box [.e (.sl x)],.box ds',.box [.bs (t 1) 0 n 1]]) rfl ?_ ⟨rfl,rfl,rfl,trivial⟩ (sb_side hds (fun t=>rfl) rfl))
    ⟨i+1,c1.set i.toNat a,ds',by omega,by omega,by simp [i2],fun j hj=>?_,hds,rfl⟩
   ·obtain ⟨w1,w2,w3,w4,w5,w6,w7,_⟩:=hs
    exact ⟨.inl w1,.inl w2,.inl w3,.inl w4,.inl w5,.inl w6,.inl w7,trivial⟩
   ·by_cases hji:(j:Int)<i
    ·rw [List.getElem?_set_ne (show i.toNat≠j by omega)];exact i4 j hji
    ·have:j=i.toNat:=by omega
     subst this
     exact ⟨by rw [<-hs0,ha];exact h0,by rw [List.getElem?_set_self (by omega),<-hs0,ha]⟩
  clear hK i4 hs0 hbad hord hxs haok q0
  have hset: ∀ {b:Nat} {ds:List D} {a:Int},ds=ds1.take b++ [.int a]++ds1.drop (b+1)->b=0+i.toNat * 1->ds=dsI (c1.set i.toNat a):=fun {b ds a} h1 h2=>
   dsI_set hd1 (by omega) (by rw [h1,show b=i.toNat by omega])
  have h252:=ok116 K
  have h251:=ok115 K
  obtain ⟨bR,hbR⟩: ∃b,b=hasR K:=⟨_,rfl⟩
  obtain ⟨bL,hbL⟩: ∃b,b=hasL K:=⟨_,rfl⟩
  rw [<-hbR] at h252
  rw [<-hbL] at h251
  simp only [frS,<-hbR,<-hbL] at hst
  by_cases hK1:K<1
  ·have k1:A.lt K 1=true:=by rw [hA.lt];exact decide_eq_true hK1
   obtain ⟨rfl,rfl⟩:=hbad2 (by rw [hst,if_pos (by omega)])
   clear hok hst hbad2 hfj
   cbv
   repeat' first | exact W1 | (simp only [e8,k1];cbv) | refine WA ?_ ?_ | with_reducible intro hcc | refine WS ?_ | (with_reducible refine hA.fin_tup _ _ _ ?_) | (refine hA.RowE hi q1 ?_;cbv) | ((with_reducible refine hA.st [_,_,_,_,_,_,_] _ _ _ _ ⟨?_,fun ds hds=>?_⟩);rotate_left;subst hds;cbv) | refine W6 ?_ | ((with_reducible first | refine hA.Len fun z hz hb=>?_ | refine hA.Off fun b hb=>?_ | refine hA.Plus fun b hb=>?_ | refine hA.Rep fun ds m hds hm=>?_ | refine hA.gb _ _ fun vb hvb=>?_);cbv) | ((with_reducible first | refine hA.Sto ?_ fun ds hds=>?_ | refine hA.Sapp ?_ fun sl hsl=>?_);rotate_left;cbv) | refine WL ?_ | fail
   all_goals try simp only [hA.sm,n_cast] at *
   all_goals first | omega | rfl | trivial | (simp;done)
  have k1:A.lt K 1=false:=by rw [hA.lt];exact decide_eq_false hK1
  by_cases hK2:10<K
  ·have k2:A.lt 10 K=true:=by rw [hA.lt];exact decide_eq_true hK2
   obtain ⟨rfl,rfl⟩:=hbad2 (by rw [hst,if_pos (by omega)])
   clear hok hst hbad2 hfj
   cbv
   repeat' first | exact W1 | (simp only [e8,k1,k2];cbv) | refine WA ?_ ?_ | with_reducible intro hcc | refine WS ?_ | (with_reducible refine hA.fin_tup _ _ _ ?_) | (refine hA.RowE hi q1 ?_;cbv) | ((with_reducible refine hA.st [_,_,_,_,_,_,_] _ _ _ _ ⟨?_,fun ds hds=>?_⟩);rotate_left;subst hds;cbv) | refine W6 ?_ | ((with_reducible first | refine hA.Len fun z hz hb=>?_ | refine hA.Off fun b hb=>?_ | refine hA.Plus fun b hb=>?_ | refine hA.Rep fun ds m hds hm=>?_ | refine hA.gb _ _ fun vb hvb=>?_);cbv) | ((with_reducible first | refine hA.Sto ?_ fun ds hds=>?_ | refine hA.Sapp ?_ fun sl hsl=>?_);rotate_left;cbv) | refine WL ?_ | fail
   all_goals try simp only [hA.sm,n_cast] at *
   all_goals first | omega | rfl | trivial | (simp;done)
  have k2:A.lt 10 K=false:=by rw [hA.lt];exact decide_eq_false hK2
  rw [if_neg (by omega)] at hst
  clear hbR hbL
  cases bR
  ·rw [if_neg (by simp)] at hst
   by_cases hR0:R=0
   ·have vr0:A.eq R 0=true:=by rw [hA.eq];exact decide_eq_true hR0
    rw [if_pos hR0] at hst
    cases bL
    ·by_cases hL0:L=0
     ·have vl0:A.eq L 0=true:=by rw [hA.eq];exact decide_eq_true hL0
      have hok2:=hok i (by rw [hst,if_neg (by simp),if_pos hL0]) (by omega)
      clear hok hst hbad2 hfj
      cbv
      repeat' first | exact W1 | (simp only [e8,k1,k2,vr0,vl0];cbv) | refine WA ?_ ?_ | with_reducible intro hcc | refine WS ?_ | refine WK hA hP ?_ | ((with_reducible show A.call _ _ _ _ false _ _ _ _);refine callK_no hA (.bool false) ?_;cbv) | (refine hA.LenE hze fun hb=>?_;cbv) | (refine hA.RowE hi q1 ?_;cbv) | ((with_reducible refine hA.st [_,_,_,_,_,_,_] _ _ _ _ ⟨?_,fun ds hds=>?_⟩);rotate_left;subst hds;cbv) | refine W6 ?_ | ((with_reducible first | refine hA.Len fun z hz hb=>?_ | refine hA.Off fun b hb=>?_ | refine hA.Plus fun b hb=>?_ | refine hA.Rep fun ds m hds hm=>?_ | refine hA.gb _ _ fun vb hvb=>?_);cbv) | ((with_reducible first | refine hA.Sto ?_ fun ds hds=>?_ | refine hA.Sapp ?_ fun sl hsl=>?_);rotate_left;cbv) | refine WL ?_ | fail
      all_goals try simp only [hA.sm,n_cast] at *
      all_goals first
       | omega
       | exact hf'
       | trivial
       | exact hok2 _ _ _ _ (hset hds hb) ⟨rfl,rfl,rfl,rfl,rfl,rfl,rfl,trivial⟩
       | (rw [hl1];omega)
       | (simp;done)
     ·have vl0:A.eq L 0=false:=by rw [hA.eq];exact decide_eq_false hL0
      obtain ⟨rfl,rfl⟩:=hbad2 (by rw [hst,if_neg (by simp),if_neg hL0])
      clear hok hst hbad2 hfj
      cbv
      repeat' first | exact W1 | (simp only [e8,k1,k2,vr0,vl0];cbv) | refine WA ?_ ?_ | with_reducible intro hcc | refine WS ?_ | refine WK hA hP ?_ | (with_reducible refine hA.fin_tup _ _ _ ?_) | ((with_reducible show A.call _ _ _ _ false _ _ _ _);refine callK_no hA (.bool false) ?_;cbv) | (refine hA.LenE hze fun hb=>?_;cbv) | (refine hA.RowE hi q1 ?_;cbv) | ((with_reducible refine hA.st [_,_,_,_,_,_,_] _ _ _ _ ⟨?_,fun ds hds=>?_⟩);rotate_left;subst hds;cbv) | refine W6 ?_ | ((with_reducible first | refine hA.Len fun z hz hb=>?_ | refine hA.Off fun b hb=>?_ | refine hA.Plus fun b hb=>?_ | refine hA.Rep fun ds m hds hm=>?_ | refine hA.gb _ _ fun vb hvb=>?_);cbv) | ((with_reducible first | refine hA.Sto ?_ fun ds hds=>?_ | refine hA.Sapp ?_ fun sl hsl=>?_);rotate_left;cbv) | refine WL ?_ | fail
      all_goals try simp only [hA.sm,n_cast] at *
      all_goals first | omega | exact hf' | rfl | trivial | (simp;done)
    ·obtain ⟨okl,hokl⟩: ∃b,b=decide (1<=i/\L=i-1):=⟨_,rfl⟩
     obtain ⟨al,hal⟩: ∃v,v=if okl then f (i-1) else i:=⟨_,rfl⟩
     have hl:=ok162 L i al (f (i-1)) n c1 ds1 hd1 i2.symm (by omega) (by omega) okl hokl (fun h=>by
      have h':1<=i/\L=i-1:=by rw [hokl] at h;exact of_decide_eq_true h
      rw [h'.2];exact (hfj _ (by omega) (by omega)).2) hal
     have vL:okl=true ↔ (1<=i/\L=i-1):=by rw [hokl];exact decide_eq_true_iff
     clear hokl
     cases okl
     ·rw [if_neg (by simp)] at hal
      rw [hal] at hl
      obtain ⟨rfl,rfl⟩:=hbad2 (by rw [hst,if_pos rfl,if_neg (by rw [<-vL];simp)])
      clear hok hst hbad2 hfj
      cbv
      repeat' first | exact W1 | (simp only [e8,k1,k2,vr0];cbv) | refine WA ?_ ?_ | with_reducible intro hcc | refine WS ?_ | refine WK hA hP ?_ | ((with_reducible show A.call _ _ _ _ _ 162 _ _ _);have hc:=hl;refine callK_prg hA hP [4,2,1] (by rfl) (by exact ⟨rfl,rfl,rfl,trivial⟩) (Wks.refl _) ?_ (fun _ _=>hc) hc.side;cbv) | (with_reducible refine hA.fin_tup _ _ _ ?_) | ((with_reducible show A.call _ _ _ _ false _ _ _ _);refine callK_no hA (.bool false) ?_;cbv) | (refine hA.LenE hze fun hb=>?_;cbv) | (refine hA.RowE hi q1 ?_;cbv) | ((with_reducible refine hA.st [_,_,_,_,_,_,_] _ _ _ _ ⟨?_,fun ds hds=>?_⟩);rotate_left;subst hds;cbv) | refine W6 ?_ | ((with_reducible first | refine hA.Len fun z hz hb=>?_ | refine hA.Off fun b hb=>?_ | refine hA.Plus fun b hb=>?_ | refine hA.Rep fun ds m hds hm=>?_ | refine hA.gb _ _ fun vb hvb=>?_);cbv) | ((with_reducible first | refine hA.Sto ?_ fun ds hds=>?_ | refine hA.Sapp ?_ fun sl hsl=>?_);rotate_left;cbv) | refine WL ?_ | fail
      all_goals try simp only [hA.sm,n_cast] at *
      all_goals first | omega | exact hf' | rfl | trivial | (simp;done)
     ·rw [if_pos rfl] at hal
      have vL:=vL.1 rfl
      have hal0:=(hfj (i-1) (by omega) (by omega)).1
      have hok2:=hok al (by rw [hst,if_pos rfl,if_pos vL,hal]) (by omega)
      clear hok hst hbad2 hfj
      cbv
      repeat' first | exact W1 | (simp only [e8,k1,k2,vr0];cbv) | refine WA ?_ ?_ | with_reducible intro hcc | refine WS ?_ | refine WK hA hP ?_ | ((with_reducible show A.call _ _ _ _ _ 162 _ _ _);have hc:=hl;refine callK_prg hA hP [4,2,1] (by rfl) (by exact ⟨rfl,rfl,rfl,trivial⟩) (Wks.refl _) ?_ (fun _ _=>hc) hc.side;cbv) | ((with_reducible show A.call _ _ _ _ false _ _ _ _);refine callK_no hA (.bool false) ?_;cbv) | (refine hA.LenE hze fun hb=>?_;cbv) | (refine hA.RowE hi q1 ?_;cbv) | ((with_reducible refine hA.st [_,_,_,_,_,_,_] _ _ _ _ ⟨?_,fun ds hds=>?_⟩);rotate_left;subst hds;cbv) | refine W6 ?_ | ((with_reducible first | refine hA.Len fun z hz hb=>?_ | refine hA.Off fun b hb=>?_ | refine hA.Plus fun b hb=>?_ | refine hA.Rep fun ds m hds hm=>?_ | refine hA.gb _ _ fun vb hvb=>?_);cbv) | ((with_reducible first | refine hA.Sto ?_ fun ds hds=>?_ | refine hA.Sapp ?_ fun sl hsl=>?_);rotate_left;cbv) | refine WL ?_ | fail
      all_goals try simp only [hA.sm,n_cast] at *
      all_goals first
       | omega
       | exact hf'
       | trivial
       | exact hok2 _ _ _ _ (hset hds hb) ⟨rfl,rfl,rfl,rfl,rfl,rfl,rfl,trivial⟩
       | (rw [hl1];omega)
       | (simp;done)
   ·have vr0:A.eq R 0=false:=by rw [hA.eq];exact decide_eq_false hR0
    obtain ⟨rfl,rfl⟩:=hbad2 (by rw [hst,if_neg hR0])
    clear hok hst hbad2 hfj
    cbv
    repeat' first | exact W1 | (simp only [e8,k1,k2,vr0];cbv) | refine WA ?_ ?_ | with_reducible intro hcc | refine WS ?_ | refine WK hA hP ?_ | (with_reducible refine hA.fin_tup _ _ _ ?_) | ((with_reducible show A.call _ _ _ _ false _ _ _ _);refine callK_no hA (.bool false) ?_;cbv) | (refine hA.LenE hze fun hb=>?_;cbv) | (refine hA.RowE hi q1 ?_;cbv) | ((with_reducible refine hA.st [_,_,_,_,_,_,_] _ _ _ _ ⟨?_,fun ds hds=>?_⟩);rotate_left;subst hds;cbv) | refine W6 ?_ | ((with_reducible first | refine hA.Len fun z hz hb=>?_ | refine hA.Off fun b hb=>?_ | refine hA.Plus fun b hb=>?_ | refine hA.Rep fun ds m hds hm=>?_ | refine hA.gb _ _ fun vb hvb=>?_);cbv) | ((with_reducible first | refine hA.Sto ?_ fun ds hds=>?_ | refine hA.Sapp ?_ fun sl hsl=>?_);rotate_left;cbv) | refine WL ?_ | fail
    all_goals try simp only [hA.sm,n_cast] at *
    all_goals first | omega | exact hf' | rfl | trivial | (simp;done)
  ·rw [if_pos rfl] at hst
   obtain ⟨okr,hokr⟩: ∃b,b=decide (1<=i/\R=i-1):=⟨_,rfl⟩
   obtain ⟨ar,har⟩: ∃v,v=if okr then f (i-1) else i:=⟨_,rfl⟩
   have hr:=ok162 R i ar (f (i-1)) n c1 ds1 hd1 i2.symm (by omega) (by omega) okr hokr (fun h=>by
    have h':1<=i/\R=i-1:=by rw [hokr] at h;exact of_decide_eq_true h
    rw [h'.2];exact (hfj _ (by omega) (by omega)).2) har
   have vR:okr=true ↔ (1<=i/\R=i-1):=by rw [hokr];exact decide_eq_true_iff
   clear hokr
   cases okr
   ·rw [if_neg (by simp)] at har
    rw [har] at hr
    obtain ⟨rfl,rfl⟩:=hbad2 (by rw [hst,if_neg (by rw [<-vR];simp)])
    clear hok hst hbad2 hfj
    cbv
    repeat' first | exact W1 | (simp only [e8,k1,k2];cbv) | refine WA ?_ ?_ | with_reducible intro hcc | refine WS ?_ | refine WK hA hP ?_ | ((with_reducible show A.call _ _ _ _ _ 162 _ _ _);have hc:=hr;refine callK_prg hA hP [4,2,1] (by rfl) (by exact ⟨rfl,rfl,rfl,trivial⟩) (Wks.refl _) ?_ (fun _ _=>hc) hc.side;cbv) | (with_reducible refine hA.fin_tup _ _ _ ?_) | ((with_reducible show A.call _ _ _ _ false _ _ _ _);refine callK_no hA (.bool false) ?_;cbv) | (refine hA.LenE hze fun hb=>?_;cbv) | (refine hA.RowE hi q1 ?_;cbv) | ((with_reducible refine hA.st [_,_,_,_,_,_,_] _ _ _ _ ⟨?_,fun ds hds=>?_⟩);rotate_left;subst hds;cbv) | refine W6 ?_ | ((with_reducible first | refine hA.Len fun z hz hb=>?_ | refine hA.Off fun b hb=>?_ | refine hA.Plus fun b hb=>?_ | refine hA.Rep fun ds m hds hm=>?_ | refine hA.gb _ _ fun vb hvb=>?_);cbv) | ((with_reducible first | refine hA.Sto ?_ fun ds hds=>?_ | refine hA.Sapp ?_ fun sl hsl=>?_);rotate_left;cbv) | refine WL ?_ | fail
    all_goals try simp only [hA.sm,n_cast] at *
    all_goals first | omega | exact hf' | rfl | trivial | (simp;done)
   ·rw [if_pos rfl] at har
    have vR:=vR.1 rfl
    have har0:=(hfj (i-1) (by omega) (by omega)).1
    rw [if_pos vR,<-har] at hst
    rw [<-har] at har0
    cases bL
    ·by_cases hL0:L=0
     ·have vl0:A.eq L 0=true:=by rw [hA.eq];exact decide_eq_true hL0
      have hok2:=hok ar (by rw [hst,if_neg (by simp),if_pos hL0]) (by omega)
      clear hok hst hbad2 hfj
      cbv
      repeat' first | exact W1 | (simp only [e8,k1,k2,vl0];cbv) | refine WA ?_ ?_ | with_reducible intro hcc | refine WS ?_ | refine WK hA hP ?_ | ((with_reducible show A.call _ _ _ _ _ 162 _ _ _);have hc:=hr;refine callK_prg hA hP [4,2,1] (by rfl) (by exact ⟨rfl,rfl,rfl,trivial⟩) (Wks.refl _) ?_ (fun _ _=>hc) hc.side;cbv) | ((with_reducible show A.call _ _ _ _ false _ _ _ _);refine callK_no hA (.bool false) ?_;cbv) | (refine hA.LenE hze fun hb=>?_;cbv) | (refine hA.RowE hi q1 ?_;cbv) | ((with_reducible refine hA.st [_,_,_,_,_,_,_] _ _ _ _ ⟨?_,fun ds hds=>?_⟩);rotate_left;subst hds;cbv) | refine W6 ?_ | ((with_reducible first | refine hA.Len fun z hz hb=>?_ | refine hA.Off fun b hb=>?_ | refine hA.Plus fun b hb=>?_ | refine hA.Rep fun ds m hds hm=>?_ | refine hA.gb _ _ fun vb hvb=>?_);cbv) | ((with_reducible first | refine hA.Sto ?_ fun ds hds=>?_ | refine hA.Sapp ?_ fun sl hsl=>?_);rotate_left;cbv) | refine WL ?_ | fail
      all_goals try simp only [hA.sm,n_cast] at *
      all_goals first
       | omega
       | exact hf'
       | trivial
       | exact hok2 _ _ _ _ (hset hds hb) ⟨rfl,rfl,rfl,rfl,rfl,rfl,rfl,trivial⟩
       | (rw [hl1];omega)
       | (simp;done)
     ·have vl0:A.eq L 0=false:=by rw [hA.eq];exact decide_eq_false hL0
      obtain ⟨rfl,rfl⟩:=hbad2 (by rw [hst,if_neg (by simp),if_neg hL0])
      clear hok hst hbad2 hfj
      cbv
      repeat' first | exact W1 | (simp only [e8,k1,k2,vl0];cbv) | refine WA ?_ ?_ | with_reducible intro hcc | refine WS ?_ | refine WK hA hP ?_ | ((with_reducible show A.call _ _ _ _ _ 162 _ _ _);have hc:=hr;refine callK_prg hA hP [4,2,1] (by rfl) (by exact ⟨rfl,rfl,rfl,trivial⟩) (Wks.refl _) ?_ (fun _ _=>hc) hc.side;cbv) | (with_reducible refine hA.fin_tup _ _ _ ?_) | ((with_reducible show A.call _ _ _ _ false _ _ _ _);refine callK_no hA (.bool false) ?_;cbv) | (refine hA.LenE hze fun hb=>?_;cbv) | (refine hA.RowE hi q1 ?_;cbv) | ((with_reducible refine hA.st [_,_,_,_,_,_,_] _ _ _ _ ⟨?_,fun ds hds=>?_⟩);rotate_left;subst hds;cbv) | refine W6 ?_ | ((with_reducible first | refine hA.Len fun z hz hb=>?_ | refine hA.Off fun b hb=>?_ | refine hA.Plus fun b hb=>?_ | refine hA.Rep fun ds m hds hm=>?_ | refine hA.gb _ _ fun vb hvb=>?_);cbv) | ((with_reducible first | refine hA.Sto ?_ fun ds hds=>?_ | refine hA.Sapp ?_ fun sl hsl=>?_);rotate_left;cbv) | refine WL ?_ | fail
      all_goals try simp only [hA.sm,n_cast] at *
      all_goals first | omega | exact hf' | rfl | trivial | (simp;done)
    ·obtain ⟨okl,hokl⟩: ∃b,b=decide (1<=ar/\L=ar-1):=⟨_,rfl⟩
     obtain ⟨al,hal⟩: ∃v,v=if okl then f (ar-1) else ar:=⟨_,rfl⟩
     have hl:=ok162 L ar al (f (ar-1)) n c1 ds1 hd1 i2.symm (by omega) (by omega) okl hokl (fun h=>by
      have h':1<=ar/\L=ar-1:=by rw [hokl] at h;exact of_decide_eq_true h
      rw [h'.2];exact (hfj _ (by omega) (by omega)).2) hal
     have vL:okl=true ↔ (1<=ar/\L=ar-1):=by rw [hokl];exact decide_eq_true_iff
     clear hokl
     cases okl
     ·rw [if_neg (by simp)] at hal
      rw [hal] at hl
      obtain ⟨rfl,rfl⟩:=hbad2 (by rw [hst,if_pos rfl,if_neg (by rw [<-vL];simp)])
      clear hok hst hbad2 hfj
      cbv
      repeat' first | exact W1 | (simp only [e8,k1,k2];cbv) | refine WA ?_ ?_ | with_reducible intro hcc | refine WS ?_ | refine WK hA hP ?_ | ((with_reducible show A.call _ _ _ _ _ 162 _ _ _);have hc:=hr;refine callK_prg hA hP [4,2,1] (by rfl) (by exact ⟨rfl,rfl,rfl,trivial⟩) (Wks.refl _) ?_ (fun _ _=>hc) hc.side;cbv) | ((with_reducible show A.call _ _ _ _ _ 162 _ _ _);have hc:=hl;refine callK_prg hA hP [4,2,1] (by rfl) (by exact ⟨rfl,rfl,rfl,trivial⟩) (Wks.refl _) ?_ (fun _ _=>hc) hc.side;cbv) | (with_reducible refine hA.fin_tup _ _ _ ?_) | ((with_reducible show A.call _ _ _ _ false _ _ _ _);refine callK_no hA (.bool false) ?_;cbv) | (refine hA.LenE hze fun hb=>?_;cbv) | (refine hA.RowE hi q1 ?_;cbv) | ((with_reducible refine hA.st [_,_,_,_,_,_,_] _ _ _ _ ⟨?_,fun ds hds=>?_⟩);rotate_left;subst hds;cbv) | refine W6 ?_ | ((with_reducible first | refine hA.Len fun z hz hb=>?_ | refine hA.Off fun b hb=>?_ | refine hA.Plus fun b hb=>?_ | refine hA.Rep fun ds m hds hm=>?_ | refine hA.gb _ _ fun vb hvb=>?_);cbv) | ((with_reducible first | refine hA.Sto ?_ fun ds hds=>?_ | refine hA.Sapp ?_ fun sl hsl=>?_);rotate_left;cbv) | refine WL ?_ | fail
      all_goals try simp only [hA.sm,n_cast] at *
      all_goals first | omega | exact hf' | rfl | trivial | (simp;done)
     ·rw [if_pos rfl] at hal
      have vL:=vL.1 rfl
      have hal0:=(hfj (ar-1) (by omega) (by omega)).1
      have hok2:=hok al (by rw [hst,if_pos rfl,if_pos vL,hal]) (by omega)
      clear hok hst hbad2 hfj
      cbv
      repeat' first | exact W1 | (simp only [e8,k1,k2];cbv) | refine WA ?_ ?_ | with_reducible intro hcc | refine WS ?_ | refine WK hA hP ?_ | ((with_reducible show A.call _ _ _ _ _ 162 _ _ _);have hc:=hr;refine callK_prg hA hP [4,2,1] (by rfl) (by exact ⟨rfl,rfl,rfl,trivial⟩) (Wks.refl _) ?_ (fun _ _=>hc) hc.side;cbv) | ((with_reducible show A.call _ _ _ _ _ 162 _ _ _);have hc:=hl;refine callK_prg hA hP [4,2,1] (by rfl) (by exact ⟨rfl,rfl,rfl,trivial⟩) (Wks.refl _) ?_ (fun _ _=>hc) hc.side;cbv) | ((with_reducible show A.call _ _ _ _ false _ _ _ _);refine callK_no hA (.bool false) ?_;cbv) | (refine hA.LenE hze fun hb=>?_;cbv) | (refine hA.RowE hi q1 ?_;cbv) | ((with_reducible refine hA.st [_,_,_,_,_,_,_] _ _ _ _ ⟨?_,fun ds hds=>?_⟩);rotate_left;subst hds;cbv) | refine W6 ?_ | ((with_reducible first | refine hA.Len fun z hz hb=>?_ | refine hA.Off fun b hb=>?_ | refine hA.Plus fun b hb=>?_ | refine hA.Rep fun ds m hds hm=>?_ | refine hA.gb _ _ fun vb hvb=>?_);cbv) | ((with_reducible first | refine hA.Sto ?_ fun ds hds=>?_ | refine hA.Sapp ?_ fun sl hsl=>?_);rotate_left;cbv) | refine WL ?_ | fail
      all_goals try simp only [hA.sm,n_cast] at *
      all_goals first
       | omega
       | exact hf'
       | trivial
       | exact hok2 _ _ _ _ (hset hds hb) ⟨rfl,rfl,rfl,rfl,rfl,rfl,rfl,trivial⟩
       | (rw [hl1];omega)
       | (simp;done))
end Go.Proofs.YtfplalbognalkaaGreat.Ab
/- Plans: valid or not, by both. -/
namespace Go.Proofs.YtfplalbognalkaaGreat.Ab
open Go
theorem dbOk_cols {ts:List Tb} (h:dbOk ts=true) (t:Int) (h0:0<=t) (h1:t<ts.length):1<=colsOf ts t/\colsOf ts t<=16:=by
 simp only [dbOk,Bool.and_eq_true,List.all_eq_true] at h
 have:=h.2.1 t.toNat (by simp;omega)
 simp only [good,Bool.and_eq_true,decide_eq_true_eq] at this
 unfold colsOf
 grind
theorem ndS_lo {d:Pd} {cols:Int->Int} {env l r:Int} (hl:0<=l) (hr:0<=r) (hT:d.K=2->0<=cols d.T): -1<=ndS d cols env l r:=by
 unfold ndS
 simp only
 repeat' split
 all_goals first | omega | (have:=hT (by assumption);omega)
theorem wS_lo {ns:List Pd} {nt:Int} {cols:Int->Int} (hc: ∀t,0<=t->t<nt->0<=cols t): ∀(n:Nat) (i env:Int),-1<=wS ns nt cols n i env
 | 0,i,env=>by simp [wS]
 | n+1,i,env=>by
  have key: ∀(d:Pd) (u:Bool) (l r v:Int),u=usedS d nt->(v=if u=false then-1 else if l<0 then-1 else if r<0 then-1 else ndS d cols env l r)-> -1<=v:=fun d u l r v hu e=>by
   subst e
   split
   ·omega
   ·rename_i h1
    split
    ·omega
    ·split
     ·omega
     ·refine ndS_lo (by omega) (by omega) fun h=>?_
      have h2:usedS d nt=true:=by rw [<-hu];simpa using h1
      simp only [usedS,h] at h2
      simp at h2
      exact hc _ (by omega) (by omega)
  simp only [wS]
  exact key _ _ _ _ _ rfl rfl
theorem cT_in {ts:List Tb} (h:dbOk ts=true): ∀t:Int,0<=t->t<ts.length->0<=colsOf ts t/\colsOf ts t<=1000:=fun t h0 h1=>by
 have:=dbOk_cols h t h0 h1
 omega
theorem ok80 (ns:List Pd) (x:List (List E)) (hx:x=ns.map pdr) (hlen: ∀d∈ns,d.Ex.length<=1048576/\d.Exs.length<=1048576/\ ∀e∈d.Exs,e.length<=1048576) (ts:List Tb) (xt:List (List E)) (hxt:xt=ts.map tbr) (hct: ∀t:Int,0<=t->t<ts.length->0<=colsOf ts t/\colsOf ts t<=1000) (hin:InP ns):
  ∀(n:Nat) (i env:Int),0<=i->i<n->i<x.length->0<=env->env<=200->Plain Tryz.prog 80 [.agg [.e (.sl x)],.agg [.e (.sl xt)],.int i,.int env] (.int (wS ns ts.length (colsOf ts) n i env)):=by
 intro n
 induction n with
 | zero=>intro i env h1 h2;omega
 | succ n ih=>
  intro i env h1 h2 h3 he1 he2
  have hi:(0:Int)<=i/\i<x.length:=⟨h1,h3⟩
  have hxn:x.length=ns.length:=by rw [hx];simp
  obtain ⟨K,T,M,Ex,Exs,L,R,xe,ye,q0,qm,hxe,hye,q1⟩:=pd_at hx hi
  obtain ⟨hK,hKL,hKR⟩:=hin i h1 (by omega)
  obtain ⟨z1,z2,z3⟩:=hlen _ qm
  rw [q0] at hK hKL hKR
  simp only at hK hKL hKR z1 z2 z3
  have hlo: ∀j e,-1<=wS ns ts.length (colsOf ts) n j e:=fun j e=>wS_lo (fun t a b=>(hct t a b).1) _ _ _
  obtain ⟨l,hl⟩: ∃l,l=wS ns ts.length (colsOf ts) n L env:=⟨_,rfl⟩
  obtain ⟨g,hg⟩: ∃g:Int->Int,g=wS ns ts.length (colsOf ts) n R:=⟨_,rfl⟩
  have hl1:hasL K=true->Plain Tryz.prog 80 [.agg [.e (.sl x)],.agg [.e (.sl xt)],.int L,.int env] (.int l):=fun h=>by
   have:=hKL h
   rw [hl];exact ih L env this.1 (by omega) (by omega) he1 he2
  have hl2: -1<=l/\l<=200/\(0<=l->env+l<=200):=by
   have a:=hlo L env
   rw [<-hl] at a
   by_cases h:0<=l
   ·have:=wS_rng (hl▸h)
    rw [<-hl] at this
    exact ⟨a,by omega,fun _=>this⟩
   ·exact ⟨a,by omega,fun q=>absurd q h⟩
  have hr1: ∀e,hasR K=true->0<=e->e<=200->Plain Tryz.prog 80 [.agg [.e (.sl x)],.agg [.e (.sl xt)],.int R,.int e] (.int (g e)):=fun e h a b=>by
   have:=hKR h
   rw [hg];exact ih R e this.1 (by omega) (by omega) a b
  have hr2: ∀e,0<=e-> -1<=g e/\g e<=200:=fun e h0=>by
   have a:=hlo R e
   rw [<-hg] at a
   by_cases h:0<=g e
   ·have:=wS_rng (hg▸h)
    rw [<-hg] at this
    exact ⟨a,by omega⟩
   ·exact ⟨a,by omega⟩
  simp only [wS]
  rw [q0,<-hg,<-hl]
  simp only
  have b1:xe.length<=1048576:=by rw [hxe,List.length_map];exact z1
  have b2:ye.length<=1048576:=by rw [hye,List.length_map];exact z2
  have e2:=hr2 env he1
  clear ih hlo hl hg hin hlen q0 qm hKL hKR
  rcases (show K=1\/K=2\/K=3\/K=4\/K=5\/K=6\/K=7\/K=8\/K=9\/K=10 by omega) with rfl | rfl | rfl | rfl | rfl | rfl | rfl | rfl | rfl | rfl
  ·exact ok243_1 T M Ex Exs L R xe ye x xt hxe hye ts hxt b1 b2 z3 i env 0 0 hi q1 ⟨he1,he2⟩ (by omega) (by omega) hct
  ·exact ok243_2 T M Ex Exs L R xe ye x xt hxe hye ts hxt b1 b2 z3 i env 0 0 hi q1 ⟨he1,he2⟩ (by omega) (by omega) hct
  ·exact ok243_3 T M Ex Exs L R xe ye x xt hxe hye ts hxt b1 b2 z3 i env l 0 hi q1 ⟨he1,he2⟩ (by omega) (by omega) hct (hl1 rfl)
  ·exact ok243_4 T M Ex Exs L R xe ye x xt hxe hye ts hxt b1 b2 z3 i env l 0 hi q1 ⟨he1,he2⟩ (by omega) (by omega) hct (hl1 rfl)
  ·exact ok243_5 T M Ex Exs L R xe ye x xt hxe hye ts hxt b1 b2 z3 i env l (g env) hi q1 ⟨he1,he2⟩ (by omega) e2 hct (hl1 rfl) (fun _ _=>hr1 env rfl he1 he2)
  ·by_cases h:0<=l
   ·exact ok243_6 T M Ex Exs L R xe ye x xt hxe hye ts hxt b1 b2 z3 i env l (g (env+l)) hi q1 ⟨he1,he2⟩ (by omega) (hr2 _ (by omega)) hct (hl1 rfl) (fun _ h=>hr1 (env+l) rfl (by omega) (hl2.2.2 h))
   ·have:=ok243_6 T M Ex Exs L R xe ye x xt hxe hye ts hxt b1 b2 z3 i env l 0 hi q1 ⟨he1,he2⟩ (by omega) (by omega) hct (hl1 rfl) (fun _ h'=>absurd h' h)
    rw [if_pos (show l<0 by omega)] at this
    rw [show (if hasL 6=true then l else 0)=l from rfl,if_pos (show l<0 by omega)]
    exact this
  ·by_cases h:0<=l
   ·exact ok243_7 T M Ex Exs L R xe ye x xt hxe hye ts hxt b1 b2 z3 i env l (g (env+l)) hi q1 ⟨he1,he2⟩ (by omega) (hr2 _ (by omega)) hct (hl1 rfl) (fun _ h=>hr1 (env+l) rfl (by omega) (hl2.2.2 h))
   ·have:=ok243_7 T M Ex Exs L R xe ye x xt hxe hye ts hxt b1 b2 z3 i env l 0 hi q1 ⟨he1,he2⟩ (by omega) (by omega) hct (hl1 rfl) (fun _ h'=>absurd h' h)
    rw [if_pos (show l<0 by omega)] at this
    rw [show (if hasL 7=true then l else 0)=l from rfl,if_pos (show l<0 by omega)]
    exact this
  ·by_cases h:0<=l
   ·exact ok243_8 T M Ex Exs L R xe ye x xt hxe hye ts hxt b1 b2 z3 i env l (g (env+l)) hi q1 ⟨he1,he2⟩ (by omega) (hr2 _ (by omega)) hct (hl1 rfl) (fun _ h=>hr1 (env+l) rfl (by omega) (hl2.2.2 h))
   ·have:=ok243_8 T M Ex Exs L R xe ye x xt hxe hye ts hxt b1 b2 z3 i env l 0 hi q1 ⟨he1,he2⟩ (by omega) (by omega) hct (hl1 rfl) (fun _ h'=>absurd h' h)
    rw [if_pos (show l<0 by omega)] at this
    rw [show (if hasL 8=true then l else 0)=l from rfl,if_pos (show l<0 by omega)]
    exact this
  ·exact ok243_9 T M Ex Exs L R xe ye x xt hxe hye ts hxt b1 b2 z3 i env l 0 hi q1 ⟨he1,he2⟩ (by omega) (by omega) hct (hl1 rfl)
  ·exact ok243_10 T M Ex Exs L R xe ye x xt hxe hye ts hxt b1 b2 z3 i env l (g env) hi q1 ⟨he1,he2⟩ (by omega) e2 hct (hl1 rfl) (fun _ _=>hr1 env rfl he1 he2)
def rootO (ns:List Pd) (ts:List Tb):Option Ot:=if dbOk ts=true/\ordOk ns=true then mkO ns ts ns.length ((ns.length:Int)-1) 0 else none
theorem root_w (ns:List Pd) (ts:List Tb):(rootO ns ts).map Ot.w=if planW ns ts<0 then none else some (planW ns ts):=by
 unfold rootO planW
 split
 ·rename_i h
  have hn:1<=ns.length/\ns.length<=2000:=by
   have:=h.2
   simp only [ordOk,Bool.and_eq_true,decide_eq_true_eq] at this
   exact this.1
  rw [mk_w,w_eq (ord_in h.2) (fun t a b=>(cT_in h.1 t a b).1) _ _ _ (by omega) (by omega)]
 ·simp
theorem ok37 (ns:List Pd) (x:List (List E)) (hx:x=ns.map pdr) (hxl:x.length<=1048576) (hlen: ∀d∈ns,d.Ex.length<=1048576/\d.Exs.length<=1048576/\ ∀e∈d.Exs,e.length<=1048576) (ts:List Tb) (xt:List (List E)) (hxt:xt=ts.map tbr) (hsz:cTS ts<=1048576):
  Plain Tryz.prog 37 [.agg [.e (.sl x)],.agg [.e (.sl xt)]] (.e (optE (rootO ns ts))):=okOf mixed p37 fun A P hA hP=>(by
 have hxn:x.length=ns.length:=by rw [hx];simp
 obtain ⟨ze,hze⟩: ∃z:Int,z=x.length:=⟨_,rfl⟩
 obtain ⟨aok,haok⟩: ∃b:Bool,b=true ↔ allF ns:=by
  by_cases h:allF ns
  ·exact ⟨true,by simp [h]⟩
  ·exact ⟨false,by simp [h]⟩
 obtain ⟨b,hb0⟩: ∃b,b=ordOk ns:=⟨_,rfl⟩
 obtain ⟨xs,hxs⟩: ∃xs:List (List E),xs=if aok then ((List.range ns.length).map (fr ns)).map ir else []:=⟨_,rfl⟩
 have h292:=ok86 ns x hx hxl aok b haok hb0 xs hxs
 have h38:=ok61 ts xt hxt hsz
 obtain ⟨db,hdb⟩: ∃b,b=dbOk ts:=⟨_,rfl⟩
 rw [<-hdb] at h38
 obtain ⟨res,hres⟩: ∃e,e=optE (rootO ns ts):=⟨_,rfl⟩
 rw [<-hres]
 rw [rootO,<-hdb,<-hb0] at hres
 cases b
 ·have hr2:res= .v .nilIface:=by rw [hres,if_neg (by simp)];rfl
  cbv
  repeat' first | exact W1 | refine WA ?_ ?_ | with_reducible intro hcc | refine WS ?_ | refine WK hA hP ?_ | ((with_reducible show A.call _ _ _ _ false _ _ _ _);refine callK_no hA (.bool false) ?_;cbv) | refine W6 ?_ | ((with_reducible first | refine hA.Len fun z hz hb=>?_ | refine hA.gb _ _ fun vb hvb=>?_);cbv) | refine WL ?_ | fail
  all_goals try simp only [hA.sm,n_cast] at *
  all_goals first | omega | rfl | trivial | (rw [hr2];done) | (simp;done)
 ·cases db
  ·have hr2:res= .v .nilIface:=by rw [hres,if_neg (by simp)];rfl
   cbv
   repeat' first | exact W1 | refine WA ?_ ?_ | with_reducible intro hcc | refine WS ?_ | refine WK hA hP ?_ | refine W6 ?_ | ((with_reducible first | refine hA.Len fun z hz hb=>?_ | refine hA.gb _ _ fun vb hvb=>?_);cbv) | refine WL ?_ | fail
   all_goals try simp only [hA.sm,n_cast] at *
   all_goals first | omega | rfl | trivial | (rw [hr2];done) | (simp;done)
  ·rw [if_pos ⟨rfl,rfl⟩] at hres
   have hn:1<=ns.length/\ns.length<=2000:=by
    have:=hb0.symm
    simp only [ordOk,Bool.and_eq_true,decide_eq_true_eq] at this
    exact this.1
   obtain ⟨zl,hzl⟩: ∃z,z=A.sub ze 1:=⟨_,rfl⟩
   have hzl2:zl=(ns.length:Int)-1:=by rw [hzl,hA.sub];omega
   rw [<-hzl2] at hres
   have h293:=ok87 ns x hx hxl hlen ts xt hxt (cT_in hdb.symm) (ord_in hb0.symm) xs ns.length zl 0 (by omega) (by omega) (by omega) (by omega) (by omega)
   rw [<-hres] at h293
   clear hres hxs haok hb0 hlen
   cbv
   repeat' first | exact W1 | (simp only [<-hzl];cbv) | refine WA ?_ ?_ | with_reducible intro hcc | refine WS ?_ | refine WK hA hP ?_ | (refine hA.LenE hze fun hb=>?_;cbv) | refine W6 ?_ | ((with_reducible first | refine hA.Len fun z hz hb=>?_ | refine hA.gb _ _ fun vb hvb=>?_);cbv) | refine WL ?_ | fail
   all_goals try simp only [hA.sm,n_cast] at *
   all_goals first | omega | rfl | trivial | (simp;done))
theorem ok33 (ns:List Pd) (x:List (List E)) (hx:x=ns.map pdr) (hxl:x.length<=1048576) (hlen: ∀d∈ns,d.Ex.length<=1048576/\d.Exs.length<=1048576/\ ∀e∈d.Exs,e.length<=1048576) (ts:List Tb) (xt:List (List E)) (hxt:xt=ts.map tbr) (hsz:cTS ts<=1048576) (w:Int) (ok:Bool) (hw:w=if planW ns ts<0 then 0 else planW ns ts) (hok:ok=!decide (planW ns ts<0)):
  Plain Tryz.prog 33 [.agg [.e (.sl x)],.agg [.e (.sl xt)]] (.tup [.int w,.bool ok]):=okOf mixed p33 fun A P hA hP=>(by
 have hxn:x.length=ns.length:=by rw [hx];simp
 obtain ⟨ze,hze⟩: ∃z:Int,z=x.length:=⟨_,rfl⟩
 have h36:=ok78 ts xt hxt hsz
 obtain ⟨db,hdb⟩: ∃b,b=dbOk ts:=⟨_,rfl⟩
 rw [<-hdb] at h36
 have hbad: ¬(dbOk ts=true/\ordOk ns=true)->w=0/\ok=false:=fun h=>by
  have:planW ns ts= -1:=if_neg h
  rw [this] at hw hok
  exact ⟨hw,hok⟩
 cases db
 case false=>
  obtain ⟨rfl,rfl⟩:=hbad (fun h=>by rw [<-hdb] at h;cases h.1)
  cbv
  repeat' first | exact W1 | refine WA ?_ ?_ | with_reducible intro hcc | refine WS ?_ | refine WK hA hP ?_ | (with_reducible refine hA.fin_tup _ _ _ ?_) | ((with_reducible show A.call _ _ _ _ false _ _ _ _);refine callK_no hA (.int 0) ?_;cbv) | (refine hA.LenE hze fun hb=>?_;cbv) | refine W6 ?_ | ((with_reducible first | refine hA.Len fun z hz hb=>?_ | refine hA.gb _ _ fun vb hvb=>?_);cbv) | refine WL ?_ | fail
  all_goals try simp only [hA.sm,n_cast] at *
  all_goals first | omega | rfl | trivial | (simp;done)
 case true=>
 by_cases h1:ze<1
 ·have e1:A.lt ze 1=true:=by rw [hA.lt];exact decide_eq_true h1
  obtain ⟨rfl,rfl⟩:=hbad (fun h=>by
   have:=h.2
   simp only [ordOk,Bool.and_eq_true,decide_eq_true_eq] at this
   omega)
  cbv
  repeat' first | exact W1 | (simp only [e1];cbv) | refine WA ?_ ?_ | with_reducible intro hcc | refine WS ?_ | refine WK hA hP ?_ | (with_reducible refine hA.fin_tup _ _ _ ?_) | ((with_reducible show A.call _ _ _ _ false _ _ _ _);refine callK_no hA (.int 0) ?_;cbv) | (refine hA.LenE hze fun hb=>?_;cbv) | refine W6 ?_ | ((with_reducible first | refine hA.Len fun z hz hb=>?_ | refine hA.gb _ _ fun vb hvb=>?_);cbv) | refine WL ?_ | fail
  all_goals try simp only [hA.sm,n_cast] at *
  all_goals first | omega | rfl | trivial | (simp;done)
 have e1:A.lt ze 1=false:=by rw [hA.lt];exact decide_eq_false h1
 by_cases h2:2000<ze
 ·have e2:A.lt 2000 ze=true:=by rw [hA.lt];exact decide_eq_true h2
  obtain ⟨rfl,rfl⟩:=hbad (fun h=>by
   have:=h.2
   simp only [ordOk,Bool.and_eq_true,decide_eq_true_eq] at this
   omega)
  cbv
  repeat' first | exact W1 | (simp only [e1,e2];cbv) | refine WA ?_ ?_ | with_reducible intro hcc | refine WS ?_ | refine WK hA hP ?_ | (with_reducible refine hA.fin_tup _ _ _ ?_) | ((with_reducible show A.call _ _ _ _ false _ _ _ _);refine callK_no hA (.int 0) ?_;cbv) | (refine hA.LenE hze fun hb=>?_;cbv) | refine W6 ?_ | ((with_reducible first | refine hA.Len fun z hz hb=>?_ | refine hA.gb _ _ fun vb hvb=>?_);cbv) | refine WL ?_ | fail
  all_goals try simp only [hA.sm,n_cast] at *
  all_goals first | omega | rfl | trivial | (simp;done)
 have e2:A.lt 2000 ze=false:=by rw [hA.lt];exact decide_eq_false h2
 obtain ⟨zl,hzl⟩: ∃z,z=A.sub ze 1:=⟨_,rfl⟩
 have hzl2:zl=(ns.length:Int)-1:=by rw [hzl,hA.sub];omega
 have h242:=ok79 ns x hx hxl ns.length zl (by omega) (by omega) (by omega)
 have hord:=l3F_ord (ns:=ns) (by omega)
 rw [<-hzl2] at hord
 obtain ⟨fz,hfz⟩: ∃f,f=l3F ns ns.length zl:=⟨_,rfl⟩
 rw [<-hfz] at h242 hord
 by_cases h3:fz=0
 case neg=>
  have e3:A.eq fz 0=false:=by rw [hA.eq];exact decide_eq_false h3
  obtain ⟨rfl,rfl⟩:=hbad (fun h=>by rw [hord,decide_eq_false h3] at h;cases h.2)
  cbv
  repeat' first | exact W1 | (simp only [<-hzl,e1,e2,e3];cbv) | refine WA ?_ ?_ | with_reducible intro hcc | refine WS ?_ | refine WK hA hP ?_ | (with_reducible refine hA.fin_tup _ _ _ ?_) | (refine hA.LenE hze fun hb=>?_;cbv) | refine W6 ?_ | ((with_reducible first | refine hA.Len fun z hz hb=>?_ | refine hA.gb _ _ fun vb hvb=>?_);cbv) | refine WL ?_ | fail
  all_goals try simp only [hA.sm,n_cast] at *
  all_goals first | omega | rfl | trivial | (simp;done)
 case pos=>
 have e3:A.eq fz 0=true:=by rw [hA.eq];exact decide_eq_true h3
 rw [decide_eq_true h3] at hord
 have hpw:planW ns ts=wS ns ts.length (colsOf ts) ns.length zl 0:=by rw [planW,if_pos ⟨hdb.symm,hord⟩,hzl2]
 have h243:=ok80 ns x hx hlen ts xt hxt (cT_in hdb.symm) (ord_in hord) ns.length zl 0 (by omega) (by omega) (by omega) (by omega) (by omega)
 rw [<-hpw] at h243
 obtain ⟨pw,hp⟩: ∃p,p=planW ns ts:=⟨_,rfl⟩
 rw [<-hp] at h243 hw hok
 clear hbad hpw hp hlen
 by_cases h4:pw<0
 ·have e4:A.lt pw 0=true:=by rw [hA.lt];exact decide_eq_true h4
  rw [if_pos h4] at hw
  rw [decide_eq_true h4] at hok
  subst hw;subst hok
  cbv
  repeat' first | exact W1 | (simp only [<-hzl,e1,e2,e3,e4];cbv) | refine WA ?_ ?_ | with_reducible intro hcc | refine WS ?_ | refine WK hA hP ?_ | (with_reducible refine hA.fin_tup _ _ _ ?_) | (refine hA.LenE hze fun hb=>?_;cbv) | refine W6 ?_ | ((with_reducible first | refine hA.Len fun z hz hb=>?_ | refine hA.gb _ _ fun vb hvb=>?_);cbv) | refine WL ?_ | fail
  all_goals try simp only [hA.sm,n_cast] at *
  all_goals first | omega | rfl | trivial | (simp;done)
 ·have e4:A.lt pw 0=false:=by rw [hA.lt];exact decide_eq_false h4
  rw [if_neg h4] at hw
  rw [decide_eq_false h4] at hok
  subst hw;subst hok
  cbv
  repeat' first | exact W1 | (simp only [<-hzl,e1,e2,e3,e4];cbv) | refine WA ?_ ?_ | with_reducible intro hcc | refine WS ?_ | refine WK hA hP ?_ | (with_reducible refine hA.fin_tup _ _ _ ?_) | (refine hA.LenE hze fun hb=>?_;cbv) | refine W6 ?_ | ((with_reducible first | refine hA.Len fun z hz hb=>?_ | refine hA.gb _ _ fun vb hvb=>?_);cbv) | refine WL ?_ | fail
  all_goals try simp only [hA.sm,n_cast] at *
  all_goals first | omega | rfl | trivial | (simp;done))
end Go.Proofs.YtfplalbognalkaaGreat.Ab
/- The work of plans: the specification's recursion and the program's loop do the same. -/
namespace Go.Proofs.YtfplalbognalkaaGreat.Ab
open Go
def capW (n:Int):Int:=if n>2000 then 2001 else n
def szN (d:Pd) (f rl:Int->Int):Int:=
 if d.K=1 then 1 else if d.K=2 then capW (rl d.T) else if d.K=5\/d.K=6 then capW (f d.L * f d.R) else if d.K=10 then capW (f d.L+f d.R) else f d.L
def szF (ns:List Pd) (rl:Int->Int):Nat->Int->Int
 | 0,_=>0
 | n+1,i=>szN (ns.getD i.toNat default) (szF ns rl n) rl
def sz (ns:List Pd) (rl:Int->Int) (i:Int):Int:=szF ns rl (i.toNat+1) i
theorem fr_two {ns:List Pd} {i:Nat} (h:0<=fr ns i):(hasL (ns.getD i default).K=false->hasR (ns.getD i default).K=false->fr ns i=i)/\
  (hasL (ns.getD i default).K=true->hasR (ns.getD i default).K=false->(ns.getD i default).L=(i:Int)-1/\fr ns i=fr ns (i-1))/\
  (hasL (ns.getD i default).K=true->hasR (ns.getD i default).K=true->(ns.getD i default).R=(i:Int)-1/\(ns.getD i default).L=fr ns (i-1)-1/\fr ns i=fr ns (ns.getD i default).L.toNat):=by
 have e:=fr_eq ns i
 split at e
 case isFalse=>omega
 rename_i hf
 obtain ⟨_,h2,_⟩:=fr_kids h
 unfold kidsP at e h2
 refine ⟨fun a b=>?_,fun a b=>?_,fun a b=>?_⟩
 ·rw [a,b] at e;simpa [chain] using e
 ·rw [a,b] at e h2
  simp only [if_true,Bool.false_eq_true,if_false,List.nil_append,chain] at e
  split at e
  ·omega
  ·rename_i hq
   refine ⟨by omega,?_⟩
   rw [e,show ((i:Int)-1).toNat=i-1 by omega]
 ·rw [a,b] at e h2
  simp only [if_true,List.singleton_append,chain] at e
  split at e
  ·omega
  ·rename_i hq
   split at e
   ·omega
   ·rename_i hq2
    rw [show ((i:Int)-1).toNat=i-1 by omega] at e hq hq2
    have hL:(ns.getD i default).L=fr ns (i-1)-1:=by omega
    refine ⟨by omega,hL,?_⟩
    rw [e,hL]
end Go.Proofs.YtfplalbognalkaaGreat.Ab
/- Simplified flat plans: as the specification and as the program says it; that both say the same. -/
namespace Go.Proofs.YtfplalbognalkaaGreat.Ab
open Go
def colE (i:Nat):List (Int×Int):= [(3,(i:Int))]
def colsE (w:Int):List (List (Int×Int)):=(List.range w.toNat).map colE
def cuI (i:Int) (d:Fd):Int:=(if lef d.K=true/\d.L=i then 1 else 0)+(if rig d.K=true/\d.R=i then 1 else 0)
def uses (i:Int):List Fd->Int
 | []=>0
 | d::r=>cuI i d+uses i r
theorem uses_app (i:Int): ∀a b:List Fd,uses i (a++b)=uses i a+uses i b
 | [],b=>by simp [uses]
 | d::a,b=>by simp only [List.cons_append,uses,uses_app i a b];omega
def kf (ask:Fd->Int) (i:Int):Int->List Fd->Int
 | K, []=>K
 | K,d::r=>kf ask i (if d.L=i/\0<ask d then 10+ask d-1 else K) r
end Go.Proofs.YtfplalbognalkaaGreat.Ab
/- Plans made flat: what the unnesting gives, and the widths that it uses. -/
namespace Go.Proofs.YtfplalbognalkaaGreat.Ab
open Go
def pwN (d:Pd) (cols f:Int->Int):Int:=
 if d.K=1 then 0 else if d.K=2 then cols d.T else if d.K=4 then (d.Exs.length:Int) else if d.K=5\/d.K=6 then f d.L+f d.R else if d.K=7\/d.K=8 then f d.L+1 else f d.L
def pwF (ns:List Pd) (cols:Int->Int):Nat->Int->Int
 | 0,_=>0
 | n+1,i=>pwN (ns.getD i.toNat default) cols (pwF ns cols n)
def pw (ns:List Pd) (cols:Int->Int) (i:Int):Int:=pwF ns cols (i.toNat+1) i
theorem pwN_congr {d:Pd} {cols f g:Int->Int} (hK:1<=d.K/\d.K<=10) (hl:hasL d.K=true->f d.L=g d.L) (hr:hasR d.K=true->f d.R=g d.R):pwN d cols f=pwN d cols g:=by
 unfold pwN
 by_cases h1:d.K=1
 ·simp [h1]
 by_cases h2:d.K=2
 ·simp [h2]
 have hL:hasL d.K=true:=by simp [hasL];omega
 by_cases h5:d.K=5\/d.K=6
 ·have hR:hasR d.K=true:=by simp [hasR];omega
  rw [hl hL,hr hR]
 ·rw [hl hL]
  simp [h5]
theorem pwF_fuel {ns:List Pd} {cols:Int->Int} (hin:InP ns): ∀(n m:Nat) (i:Int),0<=i->i<ns.length->i<n->i<m->pwF ns cols n i=pwF ns cols m i
 | 0,m,i,h0,_,h1,_=>by omega
 | n+1,0,i,h0,_,_,h2=>by omega
 | n+1,m+1,i,h0,hl,h1,h2=>by
  obtain ⟨a,b,c⟩:=hin i h0 hl
  simp only [pwF]
  refine pwN_congr a (fun h=>?_) fun h=>?_
  ·have:=b h
   exact pwF_fuel hin n m _ this.1 (by omega) (by omega) (by omega)
  ·have:=c h
   exact pwF_fuel hin n m _ this.1 (by omega) (by omega) (by omega)
theorem pw_eq {ns:List Pd} {cols:Int->Int} (hin:InP ns) {i:Int} (h0:0<=i) (h1:i<ns.length):pw ns cols i=pwN (ns.getD i.toNat default) cols (pw ns cols):=by
 obtain ⟨a,b,c⟩:=hin i h0 h1
 show pwN _ _ _=_
 refine pwN_congr a (fun h=>?_) fun h=>?_
 ·have:=b h
  exact pwF_fuel hin _ _ _ this.1 (by omega) (by omega) (by omega)
 ·have:=c h
  exact pwF_fuel hin _ _ _ this.1 (by omega) (by omega) (by omega)
theorem wS_step {ns:List Pd} {nt:Int} {cols:Int->Int} {n:Nat} {i env:Int} (h:0<=wS ns nt cols (n+1) i env):
  ∃l r,usedS (ns.getD i.toNat default) nt=true/\(l=if hasL (ns.getD i.toNat default).K then wS ns nt cols n (ns.getD i.toNat default).L env else 0)/\0<=l/\
   (r=if hasR (ns.getD i.toNat default).K then wS ns nt cols n (ns.getD i.toNat default).R (if depK (ns.getD i.toNat default).K then env+l else env) else 0)/\0<=r/\wS ns nt cols (n+1) i env=ndS (ns.getD i.toNat default) cols env l r:=by
 simp only [wS] at h ⊢
 obtain ⟨d,hd⟩: ∃d,d=ns.getD i.toNat default:=⟨_,rfl⟩
 rw [<-hd] at h ⊢
 obtain ⟨l,hl⟩: ∃l,l=if hasL d.K then wS ns nt cols n d.L env else 0:=⟨_,rfl⟩
 rw [<-hl] at h ⊢
 obtain ⟨r,hr⟩: ∃r,r=if hasR d.K then wS ns nt cols n d.R (if depK d.K then env+l else env) else 0:=⟨_,rfl⟩
 rw [<-hr] at h ⊢
 by_cases c1:usedS d nt=false
 ·rw [if_pos c1] at h;omega
 rw [if_neg c1] at h ⊢
 by_cases c2:l<0
 ·rw [if_pos c2] at h;omega
 rw [if_neg c2] at h ⊢
 by_cases c3:r<0
 ·rw [if_pos c3] at h;omega
 rw [if_neg c3] at h ⊢
 exact ⟨l,r,by simpa using c1,rfl,by omega,hr,by omega,rfl⟩
theorem ndS_val {d:Pd} {cols:Int->Int} {env l r:Int} (h:0<=ndS d cols env l r):ndS d cols env l r=if d.K=2 then cols d.T else if d.K=4 then (d.Exs.length:Int) else if d.K=5\/d.K=6 then l+r else if d.K=7\/d.K=8 then l+1 else l:=by
 unfold ndS at h ⊢
 simp only at h ⊢
 obtain ⟨w,hw⟩: ∃w,w=if d.K=2 then cols d.T else if d.K=4 then (d.Exs.length:Int) else if d.K=5\/d.K=6 then l+r else if d.K=7\/d.K=8 then l+1 else l:=⟨_,rfl⟩
 rw [<-hw] at h ⊢
 repeat' split at h
 all_goals first
  | omega
  | (rename_i c1 c2 c3 c4 c5;rw [if_neg c1,if_neg c2,if_neg c3,if_neg c4,if_neg c5])
theorem wS_pw {ns:List Pd} {nt:Int} {cols:Int->Int} (hin:InP ns): ∀(n:Nat) (i env:Int),0<=i->i<ns.length->0<=wS ns nt cols n i env->wS ns nt cols n i env=pwF ns cols n i
 | 0,i,env,_,_,h=>by simp [wS] at h
 | n+1,i,env,h0,h1,h=>by
  obtain ⟨l,r,_,hl,hl0,hr,hr0,he⟩:=wS_step h
  obtain ⟨hk,hkl,hkr⟩:=hin i h0 h1
  obtain ⟨d,hd⟩: ∃d,d=ns.getD i.toNat default:=⟨_,rfl⟩
  rw [he] at h ⊢
  rw [ndS_val h]
  simp only [pwF]
  rw [<-hd] at hk hkl hkr hl hr ⊢
  have el:hasL d.K=true->l=pwF ns cols n d.L:=fun q=>by
   rw [if_pos q] at hl
   obtain ⟨a,b⟩:=hkl q
   rw [hl]
   exact wS_pw hin n _ _ a (by omega) (by rw [<-hl];exact hl0)
  have er:hasR d.K=true->r=pwF ns cols n d.R:=fun q=>by
   rw [if_pos q] at hr
   obtain ⟨a,b⟩:=hkr q
   rw [hr]
   exact wS_pw hin n _ _ a (by omega) (by rw [<-hr];exact hr0)
  unfold pwN
  by_cases c1:d.K=1
  ·have hL:hasL d.K=false:=by simp [hasL,c1]
   rw [hL] at hl
   simp [c1,hl]
  by_cases c2:d.K=2
  ·simp [c2]
  have hL:hasL d.K=true:=by simp [hasL];omega
  rw [if_neg c1,<-el hL]
  by_cases c5:d.K=5\/d.K=6
  ·have hR:hasR d.K=true:=by simp [hasR];omega
   rw [<-er hR]
  ·rw [if_neg c5]
   simp [c5]
def scanF (t:Int):Fd:=⟨2,t,0,0, [], [],0,0⟩
def unF (ns:List Pd) (wl:Int->Int):Nat->Int->Int->Int->List Fd->List Fd×Int
 | 0,_,d,_,out=>(out,d)
 | n+1,i,d,w,out=>
  let a:=ns.getD i.toNat default
  if a.K=1 then (out,d)
  else if a.K=2 then ((out++ [scanF a.T])++ [⟨5,0,0,0, [], [],d,out.length⟩],out.length+1)
  else
   let p:=unF ns wl n a.L d w out
   if a.K=3 then (p.1++ [⟨3,0,0,0,a.Ex, [],p.2,0⟩],p.1.length)
   else if a.K=4 then (p.1++ [⟨4,0,0,0, [],colsE w++a.Exs,p.2,0⟩],p.1.length)
   else if a.K=9 then (p.1++ [⟨8,0,0,0, [], [],p.2,0⟩],p.1.length)
   else if a.K=5\/a.K=10 then
    let q:=unF ns wl n a.R d w p.1
    (q.1++ [⟨if a.K=5 then 5 else 9,0,0,if a.K=5 then w else 0, [], [],p.2,q.2⟩],q.1.length)
   else
    let q:=unF ns wl n a.R p.1.length (w+wl a.L) (p.1++ [⟨8,0,0,0, [], [],p.2,0⟩])
    (q.1++ [⟨if a.K=7 then 6 else if a.K=8 then 7 else 5,0,a.M,w+wl a.L,a.Ex, [],p.2,q.2⟩],q.1.length)
theorem unF_len {ns:List Pd} (wl:Int->Int): ∀(n:Nat) (i:Int) (d w:Int) (out:List Fd),0<=i->i<n->0<=fr ns i.toNat->0<=d->d<out.length->
  (out.length:Int)<=(unF ns wl n i d w out).1.length/\((unF ns wl n i d w out).1.length:Int)<=out.length+2 * (i-fr ns i.toNat+1)/\0<=(unF ns wl n i d w out).2/\(unF ns wl n i d w out).2<(unF ns wl n i d w out).1.length
 | 0,i,d,w,out,h0,h,_,_,_=>by omega
 | n+1,i,d,w,out,h0,h,hf,hd0,hd1=>by
  obtain ⟨hk,hl,hr⟩:=fr_in hf
  have hfl:=fr_le ns i.toNat
  obtain ⟨t0,t1,t2⟩:=fr_two hf
  simp only [unF]
  obtain ⟨a,ha⟩: ∃a,a=ns.getD i.toNat default:=⟨_,rfl⟩
  rw [<-ha] at hk hl hr t0 t1 t2 ⊢
  by_cases c1:a.K=1
  ·rw [if_pos c1]
   simp only
   omega
  rw [if_neg c1]
  by_cases c2:a.K=2
  ·rw [if_pos c2]
   simp only [List.length_append,List.length_cons,List.length_nil]
   omega
  rw [if_neg c2]
  have hL:hasL a.K=true:=by simp [hasL];omega
  have hl:=hl hL
  by_cases hR:hasR a.K=true
  ·obtain ⟨r1,r2,r3⟩:=t2 hL hR
   have hr:=hr hR
   have e1:fr ns a.R.toNat=a.L+1:=by rw [show a.R.toNat=i.toNat-1 by omega];omega
   obtain ⟨g1,g2,g3,g4⟩:=unF_len wl n a.L d w out hl.1 (by omega) (by rw [<-r3];exact hf) hd0 hd1
   obtain ⟨p,hp⟩: ∃p,p=unF ns wl n a.L d w out:=⟨_,rfl⟩
   rw [<-hp] at g1 g2 g3 g4 ⊢
   have c3:a.K≠3/\a.K≠4/\a.K≠9:=by simp [hasR] at hR;omega
   rw [if_neg c3.1,if_neg c3.2.1,if_neg c3.2.2]
   by_cases c5:a.K=5\/a.K=10
   ·rw [if_pos c5]
    obtain ⟨k1,k2,k3,k4⟩:=unF_len wl n a.R d w p.1 hr.1 (by omega) (by rw [e1];omega) hd0 (by omega)
    simp only [List.length_append,List.length_cons,List.length_nil]
    omega
   ·rw [if_neg c5]
    obtain ⟨k1,k2,k3,k4⟩:=unF_len wl n a.R p.1.length (w+wl a.L) (p.1++ [⟨8,0,0,0, [], [],p.2,0⟩]) hr.1 (by omega) (by rw [e1];omega) (by omega) (by simp;omega)
    simp only [List.length_append,List.length_cons,List.length_nil] at k1 k2 k3 k4 ⊢
    omega
  ·have hR:hasR a.K=false:=by simpa using hR
   obtain ⟨r1,r2⟩:=t1 hL hR
   have e1:fr ns a.L.toNat=fr ns i.toNat:=by rw [r2,show a.L.toNat=i.toNat-1 by omega]
   obtain ⟨g1,g2,g3,g4⟩:=unF_len wl n a.L d w out hl.1 (by omega) (by rw [e1];exact hf) hd0 hd1
   obtain ⟨p,hp⟩: ∃p,p=unF ns wl n a.L d w out:=⟨_,rfl⟩
   rw [<-hp] at g1 g2 g3 g4 ⊢
   have c3:a.K=3\/a.K=4\/a.K=9:=by simp [hasR] at hR;simp [hasL] at hL;omega
   rcases c3 with c3 | c3 | c3
   ·rw [if_pos c3]
    simp only [List.length_append,List.length_cons,List.length_nil]
    omega
   ·rw [if_neg (by omega),if_pos c3]
    simp only [List.length_append,List.length_cons,List.length_nil]
    omega
   ·rw [if_neg (by omega),if_neg (by omega),if_pos c3]
    simp only [List.length_append,List.length_cons,List.length_nil]
    omega
end Go.Proofs.YtfplalbognalkaaGreat.Ab
/- The code of what PlanWork reaches. -/
namespace Go.Proofs.YtfplalbognalkaaGreat.Ab
open Go
end Go.Proofs.YtfplalbognalkaaGreat.Ab
/- The work of plans: the bounds on the rows of all nodes, by both. -/
namespace Go.Proofs.YtfplalbognalkaaGreat.Ab
open Go
theorem wS_used {ns:List Pd} {nt:Int} {cols:Int->Int} : ∀(n i:Nat) (env:Int),i<n->0<=fr ns i->0<=wS ns nt cols n i env-> ∀j:Nat,fr ns i<=j->j<=i->usedS (ns.getD j default) nt=true
 | 0,_,_,h,_,_,_,_,_=>by omega
 | n+1,i,env,hn,hf,hw,j,h1,h2=>by
  simp only [wS,Int.toNat_natCast] at hw
  obtain ⟨_,q1,q2⟩:=fr_kids hf
  have key: ∀(u:Bool) (l r v:Int),(v=if u=false then-1 else if l<0 then-1 else if r<0 then-1 else ndS (ns.getD i default) cols env l r)->0<=v->u=true/\ ¬l<0/\ ¬r<0:=fun u l r v e h=>by
   subst e
   split at h
   ·omega
   ·rename_i hu
    split at h
    ·omega
    ·rename_i hl
     split at h
     ·omega
     ·rename_i hr
      exact ⟨by simpa using hu,hl,hr⟩
  obtain ⟨hu,hl,hr⟩:=key _ _ _ _ rfl hw
  rcases Nat.lt_or_ge j i with hji | hji
  ·obtain ⟨k,k1,k2,k3⟩:=q2 j h1 (by omega)
   obtain ⟨a,b,c⟩:=q1 k k1
   have hk:(hasL (ns.getD i default).K=true/\k=(ns.getD i default).L)\/(hasR (ns.getD i default).K=true/\k=(ns.getD i default).R):=by
    unfold kidsP at k1
    rcases List.mem_append.1 k1 with h | h
    ·split at h
     ·rename_i e;exact .inr ⟨e,List.mem_singleton.1 h⟩
     ·cases h
    ·split at h
     ·rename_i e;exact .inl ⟨e,List.mem_singleton.1 h⟩
     ·cases h
   rcases hk with ⟨e1,e2⟩ | ⟨e1,e2⟩
   ·rw [if_pos e1,<-e2] at hl
    exact wS_used n k.toNat env (by omega) c (by rw [show ((k.toNat:Nat):Int)=k by omega];exact Int.not_lt.1 hl) j k2 (by omega)
   ·rw [if_pos e1,<-e2] at hr
    exact wS_used n k.toNat _ (by omega) c (by rw [show ((k.toNat:Nat):Int)=k by omega];exact Int.not_lt.1 hr) j k2 (by omega)
  ·have:j=i:=by omega
   subst this
   exact hu
theorem plan_scans {ns:List Pd} {ts:List Tb} (h:0<=planW ns ts):(dbOk ts=true/\ordOk ns=true)/\ ∀j:Int,0<=j->j<ns.length->(ns.getD j.toNat default).K=2->0<=(ns.getD j.toNat default).T/\(ns.getD j.toNat default).T<ts.length:=by
 unfold planW at h
 split at h
 ·rename_i hb
  refine ⟨hb,fun j h0 h1 hk=>?_⟩
  have ho:=hb.2
  simp only [ordOk,Bool.and_eq_true,decide_eq_true_eq] at ho
  rw [show (ns.length:Int)-1=((ns.length-1:Nat):Int) by omega] at h
  have:=wS_used ns.length (ns.length-1) 0 (by omega) (by omega) h j.toNat (by omega) (by omega)
  obtain ⟨d,hd⟩: ∃d,d=ns.getD j.toNat default:=⟨_,rfl⟩
  rw [<-hd] at this hk ⊢
  simp only [usedS,hk] at this
  simp at this
  omega
 ·omega
theorem rb_side {env:RF->List (Nat×D)} {x xt:List (List E)} {c:List Int} {ds:List D} (h1:ds=dsI c) (he: ∀t,env t=renEnv t (env id)) (hl:ltEnv 3 (env id)=true):SideW env (fun _=> [.box [.e (.sl x)],.box [.e (.sl xt)],.box ds]):=by
 subst h1
 exact ⟨he,hl,fun t=>by simp only [List.map_cons,List.map_nil,O.ren,dsI_ren];rfl,by
  intro o ho
  simp only [List.mem_cons,List.not_mem_nil,or_false] at ho
  rcases ho with rfl | rfl | rfl
  ·rfl
  ·rfl
  ·simp only [O.lt,dsI_lt]⟩
end Go.Proofs.YtfplalbognalkaaGreat.Ab
/- What holds of all nodes of a valid plan. -/
namespace Go.Proofs.YtfplalbognalkaaGreat.Ab
open Go
theorem wS_all {ns:List Pd} {nt:Int} {cols:Int->Int} : ∀(n i:Nat) (env:Int),i<n->0<=fr ns i->0<=env->0<=wS ns nt cols n i env-> ∀j:Nat,fr ns i<=j->j<=i-> ∃(m:Nat) (e:Int),j<m/\0<=e/\0<=wS ns nt cols m j e
 | 0,_,_,h,_,_,_,_,_,_=>by omega
 | n+1,i,env,hn,hf,he,hw,j,h1,h2=>by
  obtain ⟨l,r,_,hl,hl0,hr,hr0,_⟩:=wS_step hw
  simp only [Int.toNat_natCast] at hl hr
  obtain ⟨_,q1,q2⟩:=fr_kids hf
  rcases Nat.lt_or_ge j i with hji | hji
  ·obtain ⟨k,k1,k2,k3⟩:=q2 j h1 (by omega)
   obtain ⟨a,b,c⟩:=q1 k k1
   have hk:(hasL (ns.getD i default).K=true/\k=(ns.getD i default).L)\/(hasR (ns.getD i default).K=true/\k=(ns.getD i default).R):=by
    unfold kidsP at k1
    rcases List.mem_append.1 k1 with h | h
    ·split at h
     ·rename_i e;exact .inr ⟨e,List.mem_singleton.1 h⟩
     ·cases h
    ·split at h
     ·rename_i e;exact .inl ⟨e,List.mem_singleton.1 h⟩
     ·cases h
   rcases hk with ⟨e1,e2⟩ | ⟨e1,e2⟩
   ·rw [if_pos e1,<-e2] at hl
    exact wS_all n k.toNat env (by omega) c he (by rw [show ((k.toNat:Nat):Int)=k by omega,<-hl];exact hl0) j k2 (by omega)
   ·rw [if_pos e1,<-e2] at hr
    refine wS_all n k.toNat (if depK (ns.getD i default).K then env+l else env) (by omega) c ?_ (by rw [show ((k.toNat:Nat):Int)=k by omega,<-hr];exact hr0) j k2 (by omega)
    split <;>omega
  ·have:j=i:=by omega
   subst this
   exact ⟨n+1,env,hn,he,hw⟩
structure Pok (ns:List Pd) (ts:List Tb):Prop where
 db:dbOk ts=true
 ord:ordOk ns=true
 used: ∀j:Nat,j<ns.length->usedI (ns.getD j default)=true
 T: ∀j:Int,0<=j->j<ns.length->(ns.getD j.toNat default).K=2->0<=(ns.getD j.toNat default).T/\(ns.getD j.toNat default).T<ts.length
 pw: ∀j:Int,0<=j->j<ns.length->0<=pw ns (colsOf ts) j/\pw ns (colsOf ts) j<=200
theorem Pok.len {ns:List Pd} {ts:List Tb} (h:Pok ns ts):1<=ns.length/\ns.length<=2000:=by
 have:=h.ord
 simp only [ordOk,Bool.and_eq_true,decide_eq_true_eq] at this
 exact this.1
theorem Pok.inp {ns:List Pd} {ts:List Tb} (h:Pok ns ts):InP ns:=ord_in h.ord
theorem Pok.fr {ns:List Pd} {ts:List Tb} (h:Pok ns ts) {j:Int} (h0:0<=j) (h1:j<ns.length):0<=fr ns j.toNat:=ord_all h.ord j.toNat (by omega)
theorem pok_of {ns:List Pd} {ts:List Tb} (h:0<=planW ns ts):Pok ns ts:=by
 obtain ⟨⟨hd,ho⟩,hs⟩:=plan_scans h
 have ho':=ho
 simp only [ordOk,Bool.and_eq_true,decide_eq_true_eq] at ho'
 have h':=h
 rw [planW,if_pos ⟨hd,ho⟩,show (ns.length:Int)-1=((ns.length-1:Nat):Int) by omega] at h'
 refine ⟨hd,ho,fun j hj=>?_,hs,fun j h0 h1=>?_⟩
 ·have:=wS_used ns.length (ns.length-1) 0 (by omega) (by omega) h' j (by omega) (by omega)
  rwa [used_eq (fun hk=>by have:=hs j (by omega) (by omega);simp only [Int.toNat_natCast] at this;exact this hk)] at this
 ·obtain ⟨m,e,q1,q2,q3⟩:=wS_all ns.length (ns.length-1) 0 (by omega) (by omega) (by omega) h' j.toNat (by omega) (by omega)
  rw [show ((j.toNat:Nat):Int)=j by omega] at q3
  have e1:=wS_pw (ord_in ho) m j e h0 h1 q3
  have e2:pwF ns (colsOf ts) m j=Ab.pw ns (colsOf ts) j:=pwF_fuel (ord_in ho) _ _ _ h0 h1 (by omega) (by omega)
  have:=wS_rng q3
  rw [<-e2,<-e1]
  omega
end Go.Proofs.YtfplalbognalkaaGreat.Ab
/- The widths of a valid plan's nodes, by the program. -/
namespace Go.Proofs.YtfplalbognalkaaGreat.Ab
open Go
def c38:F:=⟨83, [(.tmp 4)],(.seq (.reg [ZA 2 (.box 0),ZA 3 (.box 1),ZA 4 (.mov (.c .zs))]) (.seq (.reg [ZE 8 0 2,ZL 9 8,ZA 10 (.lenl 9),ZA 11 (.mks [(.int 0)] 10),ZM 5 11]) (.seq (.seq (.reg [ZE 12 0 2,ZL 13 12,ZA 14 (.lenl 13),ZA 15 (.mov (.c (.int 0)))]) (.block 0 (.loop (.seq (.reg [ZA 16 (.bin .lss 15 14)]) (.seq (.cond 16 .skip (.exit 0)) (.seq (.block 1 (.seq (.reg [ZM 17 15,ZA 18 (.iadr none 7 13 15),ZA 19 (.load true 7 18),ZA 7 (.alloc [(.int 0),(.int 0),(.int 0),(.e (.sl [])),(.e (.sl [])),(.int 0),(.int 0)]),ZM 6 17,ZN (.store true 7 7 19)]) (.seq (.reg [ZE 20 0 7,ZL 21 20]) (.block 2 (.seq (.reg [ZA 31 (.bin .eql 21 (.c (.int 1))),ZM 30 31]) (.cond 30 .skip (.seq (.reg [ZA 33 (.bin .eql 21 (.c (.int 2))),ZM 32 33]) (.cond 32 (.reg [ZM 34 5,ZM 35 6,ZE 36 0 3,ZL 37 36,ZE 38 1 7,ZL 39 38,ZA 40 (.iadr none 3 37 39),ZE 41 1 40,ZL 42 41,ZA 43 (.iadr none 1 34 35),ZN (.store false 1 43 42)]) (.seq (.reg [ZA 45 (.bin .eql 21 (.c (.int 4))),ZM 44 45]) (.cond 44 (.reg [ZM 46 5,ZM 47 6,ZE 48 4 7,ZL 49 48,ZA 50 (.lenl 49),ZA 51 (.iadr none 1 46 47),ZN (.store false 1 51 50)]) (.seq (.seq (.reg [ZA 53 (.bin .eql 21 (.c (.int 5))),ZM 52 53]) (.cond 52 .skip (.reg [ZA 54 (.bin .eql 21 (.c (.int 6))),ZM 52 54]))) (.cond 52 (.dreg [⟨ZM 55 5, [], [5]⟩,⟨ZM 56 6, [0], [6]⟩,⟨ZM 57 5, [0,1], [5]⟩,⟨ZE 58 5 7, [0,1,2], [7]⟩,⟨ZL 59 58, [0,1,2], [58]⟩,⟨ZA 60 (.iadr none 1 57 59), [0,1], [57,59]⟩,⟨ZL 61 60, [0,1], [60]⟩,⟨ZM 62 5, [0,1,2,3,4,5,6], [5]⟩,⟨ZE 63 6 7, [0,1,2,3,4,5,6,7], [7]⟩,⟨ZL 64 63, [0,1,2,3,4,5,6,7], [63]⟩,⟨ZA 65 (.iadr none 1 62 64), [0,1,2,3,4,5,6], [62,64]⟩,⟨ZL 66 65, [0,1,2,3,4,5,6], [65]⟩,⟨ZA 67 (.bin .add 61 66), [0,1], [61,66]⟩,⟨ZA 68 (.iadr none 1 55 56), [], [55,56]⟩,⟨ZN (.store false 1 68 67), [], [68,67]⟩]) (.seq (.seq (.reg [ZA 70 (.bin .eql 21 (.c (.int 7))),ZM 69 70]) (.cond 69 .skip (.reg [ZA 71 (.bin .eql 21 (.c (.int 8))),ZM 69 71]))) (.cond 69 (.reg [ZM 72 5,ZM 73 6,ZM 74 5,ZE 75 5 7,ZL 76 75,ZA 77 (.iadr none 1 74 76),ZL 78 77,ZA 79 (.bin .add 78 (.c (.int 1))),ZA 80 (.iadr none 1 72 73),ZN (.store false 1 80 79)]) (.reg [ZM 22 5,ZM 23 6,ZM 24 5,ZE 25 5 7,ZL 26 25,ZA 27 (.iadr none 1 24 26),ZL 28 27,ZA 29 (.iadr none 1 22 23),ZN (.store false 1 29 28)]))))))))))))))) (.reg [ZA 81 (.bin .add 15 (.c (.int 1))),ZM 15 81]))))))) (.seq (.reg [ZM 82 5,ZM 4 82]) .ret))))⟩
theorem p38:prepF Tryz.prog 38=some c38:=by kernel_rfl
def pwL (ns:List Pd) (cols:Int->Int):List Int:=(List.range ns.length).map fun (j:Nat)=>pw ns cols (j:Int)
theorem pwL_get {ns:List Pd} {cols:Int->Int} {j:Int} (h0:0<=j) (h1:j<ns.length):(pwL ns cols)[j.toNat]?=some (pw ns cols j):=by
 rw [pwL,List.getElem?_map,List.getElem?_range (by omega)]
 simp only [Option.map_some]
 rw [show ((j.toNat:Nat):Int)=j by omega]
theorem pwL_ext {ns:List Pd} {cols:Int->Int} {ws:List Int} (hl:ws.length=ns.length) (h: ∀j:Int,0<=j->j<ns.length->ws[j.toNat]?=some (pw ns cols j)):ws=pwL ns cols:=by
 refine List.ext_getElem? fun j=>?_
 by_cases hj:j<ns.length
 ·have:=h j (by omega) (by omega)
  rw [Int.toNat_natCast] at this
  rw [this]
  have:=pwL_get (ns:=ns) (cols:=cols) (j:=j) (by omega) (by omega)
  rw [Int.toNat_natCast] at this
  exact this.symm
 ·rw [List.getElem?_eq_none (by omega),List.getElem?_eq_none (by simp [pwL];omega)]
theorem ok38 (ns:List Pd) (x:List (List E)) (hx:x=ns.map pdr) (ts:List Tb) (xt:List (List E)) (hxt:xt=ts.map tbr) (pok:Pok ns ts) (hlen: ∀d∈ns,d.Exs.length<=1048576) (xs:List (List E)) (hxs:xs=(pwL ns (colsOf ts)).map ir):
  Plain Tryz.prog 38 [.agg [.e (.sl x)],.agg [.e (.sl xt)]] (.e (.sl xs)):=okOf mixed p38 fun A P hA hP=>(by
 have hxn:x.length=ns.length:=by rw [hx];simp
 have hxT:xt.length=ts.length:=by rw [hxt];simp
 have hnl:=pok.len
 have hin:=pok.inp
 obtain ⟨ze,hze⟩: ∃z:Int,z=x.length:=⟨_,rfl⟩
 obtain ⟨n,hn⟩: ∃n:Nat,n=x.length:=⟨_,rfl⟩
 cbv
 repeat' first | exact W1 | refine WA ?_ ?_ | with_reducible intro hcc | refine WS ?_ | (refine hA.LenE hze fun hb=>?_;cbv) | ((with_reducible refine hA.rep _ _ _ fun ds m hds hm=>?_);(have e7:n=m:=(by rw [hn,hm,hze];rfl));subst e7;cbv) | refine W6 ?_ | ((with_reducible first | refine hA.Len fun z hz hb=>?_ | refine hA.Off fun b hb=>?_ | refine hA.Plus fun b hb=>?_ | refine hA.Rep fun ds m hds hm=>?_);cbv) | ((with_reducible first | refine hA.Sto ?_ fun ds hds=>?_ | refine hA.Sapp ?_ fun sl hsl=>?_);rotate_left;cbv) | refine WL ?_ | fail
 all_goals try simp only [hA.sm,n_cast] at *
 all_goals try omega
 refine hA.loopI (fun mm s=> ∃(i:Int) (c1:List Int) (ds1:List D),0<=i/\mm+i=x.length/\c1.length=n/\(∀j:Int,0<=j->j<i->c1[j.toNat]?=some (pw ns (colsOf ts) j))/\(∀j:Int,i<=j->j<n->c1[j.toNat]?=some 0)/\ds1=dsI c1/\
   s=⟨[(15,.int i),(14,.int ze),(13,.e (.sl x)),(5,.bs 2 0 n 1),(3,.ref 1 0)], [.box [.e (.sl x)],.box [.e (.sl xt)],.box ds1]⟩) x.length _
  (Weak.keep (env':= [(15,.int 0),(14,.int ze),(13,.e (.sl x)),(5,.bs 2 0 n 1),(3,.ref 1 0)]) ⟨rfl,rfl,rfl,rfl,rfl,trivial⟩)
  ⟨0,List.replicate n 0,_,by omega,by omega,by simp,(fun j a b=>by omega),(fun j a b=>by rw [List.getElem?_replicate,if_pos (by omega)]),(by rw [<-rep_dsI n,show n=ze.toNat by omega];assumption),rfl⟩ ?_
 rintro m s Kk ⟨i,c0,ds1,i0,i1,i2,i3,i4,hd1,rfl⟩ hK
 have hl1:ds1.length=n:=by rw [hd1,dsI_len,i2]
 by_cases hi:(0:Int)<=i/\i<x.length
 case neg=>
  have e8:A.lt i ze=false:=by rw [hA.lt];exact decide_eq_false (by omega)
  have hxx:xs=c0.map ir:=by rw [hxs,pwL_ext (ws:=c0) (by omega) fun j a b=>i3 j a (by omega)]
  have hds:ds1=xs.flatten.map D.e:=by rw [hd1,hxx,dsI_flat]
  have hxk: ∀e∈xs,e.length=1:=by rw [hxx];intro e h;obtain ⟨q,_,rfl⟩:=List.mem_map.1 h;rfl
  clear hK i3
  cbv
  repeat' first | exact W1 | (simp only [e8];cbv) | refine WA ?_ ?_ | with_reducible intro hcc | refine WS ?_ | ((with_reducible refine hA.fin_bs (es:=xs) ?_ ?_ hxk)) | refine W6 ?_ | ((with_reducible first | refine hA.Len fun z hz hb=>?_ | refine hA.Off fun b hb=>?_ | refine hA.Plus fun b hb=>?_ | refine hA.Rep fun ds m hds hm=>?_);cbv) | ((with_reducible first | refine hA.Sto ?_ fun ds hds=>?_ | refine hA.Sapp ?_ fun sl hsl=>?_);rotate_left;cbv) | refine WL ?_ | fail
  all_goals try simp only [hA.sm,n_cast] at *
  all_goals first | omega | (rw [hds];rfl) | (rw [hxx,List.length_map];exact i2)
 case pos=>
  have e8:A.lt i ze=true:=by rw [hA.lt];exact decide_eq_true (by omega)
  obtain ⟨K,T,M,Ex,Exs,L,R,xe,ye,q0,qm,hxe,hye,q1⟩:=pd_at hx hi
  obtain ⟨hK1,hKL,hKR⟩:=hin i hi.1 (by omega)
  have hsc:=pok.T i hi.1 (by omega)
  have hpw:=pok.pw
  have hval:=pw_eq (cols:=colsOf ts) hin hi.1 (by omega)
  have hel:=hlen _ qm
  rw [q0] at hK1 hKL hKR hsc hval
  simp only at hK1 hKL hKR hsc hel
  obtain ⟨l,hl⟩: ∃l,l=pw ns (colsOf ts) L:=⟨_,rfl⟩
  obtain ⟨r,hr⟩: ∃r,r=pw ns (colsOf ts) R:=⟨_,rfl⟩
  obtain ⟨w,hw⟩: ∃w,w=pw ns (colsOf ts) i:=⟨_,rfl⟩
  rw [<-hw] at hval
  simp only [pwN,<-hl,<-hr] at hval
  obtain ⟨zy,hzy⟩: ∃z:Int,z=ye.length:=⟨_,rfl⟩
  have hzy2:zy=Exs.length:=by rw [hzy,hye,List.length_map]
  rw [<-hzy2] at hval
  have hel:zy<=1048576:=by omega
  obtain ⟨c1,hc1⟩: ∃b,b=decide (K=1):=⟨_,rfl⟩
  have v1:A.eq K 1=c1:=by rw [hA.eq,hc1]
  obtain ⟨c2,hc2⟩: ∃b,b=decide (K=2):=⟨_,rfl⟩
  have v2:A.eq K 2=c2:=by rw [hA.eq,hc2]
  obtain ⟨c4,hc4⟩: ∃b,b=decide (K=4):=⟨_,rfl⟩
  have v4:A.eq K 4=c4:=by rw [hA.eq,hc4]
  obtain ⟨c5,hc5⟩: ∃b,b=decide (K=5):=⟨_,rfl⟩
  have v5:A.eq K 5=c5:=by rw [hA.eq,hc5]
  obtain ⟨c6,hc6⟩: ∃b,b=decide (K=6):=⟨_,rfl⟩
  have v6:A.eq K 6=c6:=by rw [hA.eq,hc6]
  obtain ⟨c7,hc7⟩: ∃b,b=decide (K=7):=⟨_,rfl⟩
  have v7:A.eq K 7=c7:=by rw [hA.eq,hc7]
  obtain ⟨c8,hc8⟩: ∃b,b=decide (K=8):=⟨_,rfl⟩
  have v8:A.eq K 8=c8:=by rw [hA.eq,hc8]
  have hcl: ∀ {p:Prop} [Decidable p] {c:Bool},c=decide p-> ¬p->c=false:=fun h q=>by rw [h];exact decide_eq_false q
  have hct: ∀ {p:Prop} [Decidable p] {c:Bool},c=decide p->p->c=true:=fun h q=>by rw [h];exact decide_eq_true q
  have hL:hasL K=true->0<=L/\L<n/\0<=l/\l<=200/\ ∀ {b:Nat} {c:D},b=0+L.toNat * 1->c=ds1.getD b default->c= .int l:=fun h=>by
   obtain ⟨a,b⟩:=hKL h
   have g:=hpw L a (by omega)
   rw [<-hl] at g
   exact ⟨a,by omega,g.1,g.2,fun {b c} q1 q2=>dsI_get hd1 (by rw [show b=L.toNat by omega,i3 L a (by omega),hl]) q2⟩
  have hR:hasR K=true->0<=R/\R<n/\0<=r/\r<=200/\ ∀ {b:Nat} {c:D},b=0+R.toNat * 1->c=ds1.getD b default->c= .int r:=fun h=>by
   obtain ⟨a,b⟩:=hKR h
   have g:=hpw R a (by omega)
   rw [<-hr] at g
   exact ⟨a,by omega,g.1,g.2,fun {b c} q1 q2=>dsI_get hd1 (by rw [show b=R.toNat by omega,i3 R a (by omega),hr]) q2⟩
  have hK0: ∀(c2:List Int) (ds2:List D) (env:List (Nat×D)) (o3:O),ds2=dsI c2->c2=c0.set i.toNat w->subL [(15,.int (i+1)),(14,.int ze),(13,.e (.sl x)),(5,.bs 2 0 n 1),(3,.ref 1 0)] env->Kk ⟨env, [.box [.e (.sl x)],.box [.e (.sl xt)],.box ds2,o3]⟩:=fun c2 ds2 env o3 e2 e3 hs=>by
   subst e3
   refine hK _ (m-1) _ (by omega) (Weak.ren (l0:= []) [0,1,2] (fun t=> [(15,.int (i+1)),(14,.int ze),(13,.e (.sl x)),(5,.bs (t 2) 0 n 1),(3,.ref (t 1) 0)]) (fun t=> [.box [.e (.sl x)],.box [.e (.sl xt)],.box ds2]) rfl ?_ ⟨rfl,rfl,rfl,trivial⟩ (rb_side e2 (fun t=>rfl) rfl))
    ⟨i+1,c0.set i.toNat w,ds2,by omega,by omega,by simp [i2],fun j a b=>?_,fun j a b=>?_,e2,rfl⟩
   ·obtain ⟨w1,w2,w3,w4,w5,_⟩:=hs
    exact ⟨.inl w1,.inl w2,.inl w3,.inl w4,.inl w5,trivial⟩
   ·by_cases hji:j<i
    ·rw [List.getElem?_set_ne (show i.toNat≠j.toNat by omega)];exact i3 j a hji
    ·rw [show j=i by omega,List.getElem?_set_self (by omega),hw]
   ·rw [List.getElem?_set_ne (show i.toNat≠j.toNat by omega)];exact i4 j (by omega) b
  have hK2: ∀(ds2:List D) (v:Int) (b:Nat) (env:List (Nat×D)) (o3:O),ds2=ds1.take b++ [.int v]++ds1.drop (b+1)->b=0+i.toNat * 1->v=w->subL [(15,.int (i+1)),(14,.int ze),(13,.e (.sl x)),(5,.bs 2 0 n 1),(3,.ref 1 0)] env->Kk ⟨env, [.box [.e (.sl x)],.box [.e (.sl xt)],.box ds2,o3]⟩:=fun ds2 v b env o3 h1 h2 hv hs=>
   hK0 (c0.set i.toNat v) ds2 env o3 (dsI_set hd1 (by omega) (by rw [h1,show b=i.toNat by omega])) (by rw [hv]) hs
  rcases (show K=1\/K=2\/K=4\/(K=5\/K=6)\/(K=7\/K=8)\/(K=3\/K=9\/K=10) by omega) with c | c | c | c | c | c
  ·rw [if_pos c] at hval
   have d1:=hct hc1 c;subst d1
   have e0:c0=c0.set i.toNat w:=by
    have:=i4 i (Int.le_refl _) (by omega)
    rw [hval]
    refine List.ext_getElem? fun j=>?_
    by_cases q:i.toNat=j
    ·subst q
     rw [List.getElem?_set_self (by omega)]
     exact this
    ·rw [List.getElem?_set_ne q]
   have hK1:=fun env o3 hs=>hK0 c0 ds1 env o3 hd1 e0 hs
   clear hc1 hc2 hc4 hc5 hc6 hc7 hc8
   clear hK hL hR q0 qm hw hcl hct hpw hin hsc i3 i4
   cbv
   repeat' first | exact W1 | (simp only [v1,v2,v4,v5,v6,v7,v8,e8];cbv) | refine WA ?_ ?_ | with_reducible intro hcc | refine WS ?_ | (refine hA.LenE hze fun hb=>?_;cbv) | (refine hA.RowE hi q1 ?_;cbv) | ((with_reducible refine hA.st [_,_,_,_,_,_,_] _ _ _ _ ⟨?_,fun ds hds=>?_⟩);rotate_left;subst hds;cbv) | refine W6 ?_ | ((with_reducible first | refine hA.Len fun z hz hb=>?_ | refine hA.Off fun b hb=>?_ | refine hA.Plus fun b hb=>?_ | refine hA.Rep fun ds m hds hm=>?_);cbv) | ((with_reducible first | refine hA.Sto ?_ fun ds hds=>?_ | refine hA.Sapp ?_ fun sl hsl=>?_);rotate_left;cbv) | refine WL ?_ | fail
   all_goals try simp only [hA.sm,n_cast] at *
   all_goals first
    | omega
    | trivial
    | exact hK1 _ _ ⟨rfl,rfl,rfl,rfl,rfl,trivial⟩
    | exact ⟨rfl,trivial⟩
    | (simp only [List.length_cons,List.length_nil];omega)
  ·rw [if_neg (by omega),if_pos c] at hval
   have d1:=hcl hc1 (by omega);subst d1;have d2:=hct hc2 c;subst d2
   have hT:(0:Int)<=T/\T<xt.length:=by have:=hsc c;omega
   obtain ⟨ps,px,q3⟩:=tb_at hxt hT
   obtain ⟨pc,hpc⟩: ∃p,p=colsOf ts T:=⟨_,rfl⟩
   rw [<-hpc] at q3 hval
   clear hc2 hc4 hc5 hc6 hc7 hc8
   clear hK hL hR q0 qm hw hcl hct hpw hin hsc i3 i4
   cbv
   repeat' first | exact W1 | (simp only [v1,v2,v4,v5,v6,v7,v8,e8];cbv) | refine WA ?_ ?_ | with_reducible intro hcc | refine WS ?_ | (refine hA.LenE hze fun hb=>?_;cbv) | (refine hA.RowE hi q1 ?_;cbv) | ((with_reducible refine hA.st [_,_,_,_,_,_,_] _ _ _ _ ⟨?_,fun ds hds=>?_⟩);rotate_left;subst hds;cbv) | (refine hA.RowE hT q3 ?_;cbv) | ((with_reducible refine hA.st ds1 _ _ _ _ ⟨?_,fun ds2 hds2=>?_⟩);rotate_left;cbv) | refine W6 ?_ | ((with_reducible first | refine hA.Len fun z hz hb=>?_ | refine hA.Off fun b hb=>?_ | refine hA.Plus fun b hb=>?_ | refine hA.Rep fun ds m hds hm=>?_);cbv) | ((with_reducible first | refine hA.Sto ?_ fun ds hds=>?_ | refine hA.Sapp ?_ fun sl hsl=>?_);rotate_left;cbv) | refine WL ?_ | fail
   all_goals try simp only [hA.sm,n_cast] at *
   all_goals first
    | omega
    | trivial
    | exact hK2 _ _ _ _ _ (by assumption) (by assumption) (by omega) ⟨rfl,rfl,rfl,rfl,rfl,trivial⟩
    | exact ⟨rfl,trivial⟩
    | (simp only [List.length_cons,List.length_nil];omega)
  ·rw [if_neg (by omega),if_neg (by omega),if_pos c] at hval
   have d1:=hcl hc1 (by omega);subst d1;have d2:=hcl hc2 (by omega);subst d2;have d4:=hct hc4 c;subst d4
   clear hc4 hc5 hc6 hc7 hc8
   clear hK hL hR q0 qm hw hcl hct hpw hin hsc i3 i4
   cbv
   repeat' first | exact W1 | (simp only [v1,v2,v4,v5,v6,v7,v8,e8];cbv) | refine WA ?_ ?_ | with_reducible intro hcc | refine WS ?_ | (refine hA.LenE hze fun hb=>?_;cbv) | (refine hA.RowE hi q1 ?_;cbv) | ((with_reducible refine hA.st [_,_,_,_,_,_,_] _ _ _ _ ⟨?_,fun ds hds=>?_⟩);rotate_left;subst hds;cbv) | (refine hA.LenE hzy fun hb=>?_;cbv) | ((with_reducible refine hA.st ds1 _ _ _ _ ⟨?_,fun ds2 hds2=>?_⟩);rotate_left;cbv) | refine W6 ?_ | ((with_reducible first | refine hA.Len fun z hz hb=>?_ | refine hA.Off fun b hb=>?_ | refine hA.Plus fun b hb=>?_ | refine hA.Rep fun ds m hds hm=>?_);cbv) | ((with_reducible first | refine hA.Sto ?_ fun ds hds=>?_ | refine hA.Sapp ?_ fun sl hsl=>?_);rotate_left;cbv) | refine WL ?_ | fail
   all_goals try simp only [hA.sm,n_cast] at *
   all_goals first
    | omega
    | trivial
    | exact hK2 _ _ _ _ _ (by assumption) (by assumption) (by omega) ⟨rfl,rfl,rfl,rfl,rfl,trivial⟩
    | exact ⟨rfl,trivial⟩
    | (simp only [List.length_cons,List.length_nil];omega)
  ·rw [if_neg (by omega),if_neg (by omega),if_neg (by omega),if_pos c] at hval
   have d1:=hcl hc1 (by omega);subst d1;have d2:=hcl hc2 (by omega);subst d2;have d4:=hcl hc4 (by omega);subst d4;
   obtain ⟨l1,l2,l3,l4,gL⟩:=hL (by simp [hasL];omega)
   obtain ⟨r1,r2,r3,r4,gR⟩:=hR (by simp [hasR];omega)
   rcases c with c | c
   ·have d5:=hct hc5 c;subst d5
    clear hc5 hc6 hc7 hc8
    clear hK hL hR q0 qm hw hcl hct hpw hin hsc i3 i4
    cbv
    repeat' first | exact W1 | (simp only [v1,v2,v4,v5,v6,v7,v8,e8];cbv) | refine WA ?_ ?_ | with_reducible intro hcc | refine WS ?_ | (refine hA.LenE hze fun hb=>?_;cbv) | (refine hA.RowE hi q1 ?_;cbv) | ((with_reducible refine hA.st [_,_,_,_,_,_,_] _ _ _ _ ⟨?_,fun ds hds=>?_⟩);rotate_left;subst hds;cbv) | ((with_reducible refine hA.ld1 _ _ _ ⟨?_,fun c hc=>?_⟩);rotate_left;(first | ((have e9:=gL (by assumption) hc);subst e9;cbv) | ((have e9:=gR (by assumption) hc);subst e9;cbv))) | ((with_reducible refine hA.st ds1 _ _ _ _ ⟨?_,fun ds2 hds2=>?_⟩);rotate_left;cbv) | refine W6 ?_ | ((with_reducible first | refine hA.Len fun z hz hb=>?_ | refine hA.Off fun b hb=>?_ | refine hA.Plus fun b hb=>?_ | refine hA.Rep fun ds m hds hm=>?_);cbv) | ((with_reducible first | refine hA.Sto ?_ fun ds hds=>?_ | refine hA.Sapp ?_ fun sl hsl=>?_);rotate_left;cbv) | refine WL ?_ | fail
    all_goals try simp only [hA.sm,n_cast] at *
    all_goals first
     | omega
     | trivial
     | exact hK2 _ _ _ _ _ (by assumption) (by assumption) (by omega) ⟨rfl,rfl,rfl,rfl,rfl,trivial⟩
     | exact ⟨rfl,trivial⟩
     | (simp only [List.length_cons,List.length_nil];omega)
   ·have d5:=hcl hc5 (by omega);have d6:=hct hc6 c;subst d5;subst d6
    clear hc7 hc8
    clear hK hL hR q0 qm hw hcl hct hpw hin hsc i3 i4
    cbv
    repeat' first | exact W1 | (simp only [v1,v2,v4,v5,v6,v7,v8,e8];cbv) | refine WA ?_ ?_ | with_reducible intro hcc | refine WS ?_ | (refine hA.LenE hze fun hb=>?_;cbv) | (refine hA.RowE hi q1 ?_;cbv) | ((with_reducible refine hA.st [_,_,_,_,_,_,_] _ _ _ _ ⟨?_,fun ds hds=>?_⟩);rotate_left;subst hds;cbv) | ((with_reducible refine hA.ld1 _ _ _ ⟨?_,fun c hc=>?_⟩);rotate_left;(first | ((have e9:=gL (by assumption) hc);subst e9;cbv) | ((have e9:=gR (by assumption) hc);subst e9;cbv))) | ((with_reducible refine hA.st ds1 _ _ _ _ ⟨?_,fun ds2 hds2=>?_⟩);rotate_left;cbv) | refine W6 ?_ | ((with_reducible first | refine hA.Len fun z hz hb=>?_ | refine hA.Off fun b hb=>?_ | refine hA.Plus fun b hb=>?_ | refine hA.Rep fun ds m hds hm=>?_);cbv) | ((with_reducible first | refine hA.Sto ?_ fun ds hds=>?_ | refine hA.Sapp ?_ fun sl hsl=>?_);rotate_left;cbv) | refine WL ?_ | fail
    all_goals try simp only [hA.sm,n_cast] at *
    all_goals first
     | omega
     | trivial
     | exact hK2 _ _ _ _ _ (by assumption) (by assumption) (by omega) ⟨rfl,rfl,rfl,rfl,rfl,trivial⟩
     | exact ⟨rfl,trivial⟩
     | (simp only [List.length_cons,List.length_nil];omega)
  ·rw [if_neg (by omega),if_neg (by omega),if_neg (by omega),if_neg (by omega),if_pos c] at hval
   have d1:=hcl hc1 (by omega);subst d1;have d2:=hcl hc2 (by omega);subst d2;have d4:=hcl hc4 (by omega);subst d4;have d5:=hcl hc5 (by omega);subst d5;have d6:=hcl hc6 (by omega);subst d6;
   obtain ⟨l1,l2,l3,l4,gL⟩:=hL (by simp [hasL];omega)
   rcases c with c | c
   ·have d7:=hct hc7 c;subst d7
    clear hc7 hc8
    clear hK hL hR q0 qm hw hcl hct hpw hin hsc i3 i4
    cbv
    repeat' first | exact W1 | (simp only [v1,v2,v4,v5,v6,v7,v8,e8];cbv) | refine WA ?_ ?_ | with_reducible intro hcc | refine WS ?_ | (refine hA.LenE hze fun hb=>?_;cbv) | (refine hA.RowE hi q1 ?_;cbv) | ((with_reducible refine hA.st [_,_,_,_,_,_,_] _ _ _ _ ⟨?_,fun ds hds=>?_⟩);rotate_left;subst hds;cbv) | ((with_reducible refine hA.ld1 _ _ _ ⟨?_,fun c hc=>?_⟩);rotate_left;(have e9:=gL (by assumption) hc);subst e9;cbv) | ((with_reducible refine hA.st ds1 _ _ _ _ ⟨?_,fun ds2 hds2=>?_⟩);rotate_left;cbv) | refine W6 ?_ | ((with_reducible first | refine hA.Len fun z hz hb=>?_ | refine hA.Off fun b hb=>?_ | refine hA.Plus fun b hb=>?_ | refine hA.Rep fun ds m hds hm=>?_);cbv) | ((with_reducible first | refine hA.Sto ?_ fun ds hds=>?_ | refine hA.Sapp ?_ fun sl hsl=>?_);rotate_left;cbv) | refine WL ?_ | fail
    all_goals try simp only [hA.sm,n_cast] at *
    all_goals first
     | omega
     | trivial
     | exact hK2 _ _ _ _ _ (by assumption) (by assumption) (by omega) ⟨rfl,rfl,rfl,rfl,rfl,trivial⟩
     | exact ⟨rfl,trivial⟩
     | (simp only [List.length_cons,List.length_nil];omega)
   ·have d7:=hcl hc7 (by omega);have d8:=hct hc8 c;subst d7;subst d8
    clear hK hL hR q0 qm hw hcl hct hpw hin hsc i3 i4
    cbv
    repeat' first | exact W1 | (simp only [v1,v2,v4,v5,v6,v7,v8,e8];cbv) | refine WA ?_ ?_ | with_reducible intro hcc | refine WS ?_ | (refine hA.LenE hze fun hb=>?_;cbv) | (refine hA.RowE hi q1 ?_;cbv) | ((with_reducible refine hA.st [_,_,_,_,_,_,_] _ _ _ _ ⟨?_,fun ds hds=>?_⟩);rotate_left;subst hds;cbv) | ((with_reducible refine hA.ld1 _ _ _ ⟨?_,fun c hc=>?_⟩);rotate_left;(have e9:=gL (by assumption) hc);subst e9;cbv) | ((with_reducible refine hA.st ds1 _ _ _ _ ⟨?_,fun ds2 hds2=>?_⟩);rotate_left;cbv) | refine W6 ?_ | ((with_reducible first | refine hA.Len fun z hz hb=>?_ | refine hA.Off fun b hb=>?_ | refine hA.Plus fun b hb=>?_ | refine hA.Rep fun ds m hds hm=>?_);cbv) | ((with_reducible first | refine hA.Sto ?_ fun ds hds=>?_ | refine hA.Sapp ?_ fun sl hsl=>?_);rotate_left;cbv) | refine WL ?_ | fail
    all_goals try simp only [hA.sm,n_cast] at *
    all_goals first
     | omega
     | trivial
     | exact hK2 _ _ _ _ _ (by assumption) (by assumption) (by omega) ⟨rfl,rfl,rfl,rfl,rfl,trivial⟩
     | exact ⟨rfl,trivial⟩
     | (simp only [List.length_cons,List.length_nil];omega)
  ·rw [if_neg (by omega),if_neg (by omega),if_neg (by omega),if_neg (by omega),if_neg (by omega)] at hval
   have d1:=hcl hc1 (by omega);subst d1;have d2:=hcl hc2 (by omega);subst d2;have d4:=hcl hc4 (by omega);subst d4;have d5:=hcl hc5 (by omega);subst d5;have d6:=hcl hc6 (by omega);subst d6;have d7:=hcl hc7 (by omega);subst d7;have d8:=hcl hc8 (by omega);subst d8;
   obtain ⟨l1,l2,l3,l4,gL⟩:=hL (by simp [hasL];omega)
   clear hK hL hR q0 qm hw hcl hct hpw hin hsc i3 i4
   cbv
   repeat' first | exact W1 | (simp only [v1,v2,v4,v5,v6,v7,v8,e8];cbv) | refine WA ?_ ?_ | with_reducible intro hcc | refine WS ?_ | (refine hA.LenE hze fun hb=>?_;cbv) | (refine hA.RowE hi q1 ?_;cbv) | ((with_reducible refine hA.st [_,_,_,_,_,_,_] _ _ _ _ ⟨?_,fun ds hds=>?_⟩);rotate_left;subst hds;cbv) | ((with_reducible refine hA.ld1 _ _ _ ⟨?_,fun c hc=>?_⟩);rotate_left;(have e9:=gL (by assumption) hc);subst e9;cbv) | ((with_reducible refine hA.st ds1 _ _ _ _ ⟨?_,fun ds2 hds2=>?_⟩);rotate_left;cbv) | refine W6 ?_ | ((with_reducible first | refine hA.Len fun z hz hb=>?_ | refine hA.Off fun b hb=>?_ | refine hA.Plus fun b hb=>?_ | refine hA.Rep fun ds m hds hm=>?_);cbv) | ((with_reducible first | refine hA.Sto ?_ fun ds hds=>?_ | refine hA.Sapp ?_ fun sl hsl=>?_);rotate_left;cbv) | refine WL ?_ | fail
   all_goals try simp only [hA.sm,n_cast] at *
   all_goals first
    | omega
    | trivial
    | exact hK2 _ _ _ _ _ (by assumption) (by assumption) (by omega) ⟨rfl,rfl,rfl,rfl,rfl,trivial⟩
    | exact ⟨rfl,trivial⟩
    | (simp only [List.length_cons,List.length_nil];omega))
end Go.Proofs.YtfplalbognalkaaGreat.Ab
/- One outcome: a walk's result, drawn out ahead of the call. -/
namespace Go.Proofs.YtfplalbognalkaaGreat.Ab
open Go
theorem CallOK.mono {P:Program} {fn:FuncId} {args:List D} {l0:List O} {R R':D->List O->Prop} (h:CallOK P fn args l0 R) (hr: ∀d l,R d l->R' d l):CallOK P fn args l0 R':=by
 intro w G vs a b c
 exact (h w G vs a b c).mono fun e w' ⟨v,d',l',G',q1,q2,q3⟩=>⟨v,d',l',G',q1,hr _ _ q2,q3⟩
end Go.Proofs.YtfplalbognalkaaGreat.Ab
/- What is written in place is handed on: lent to a call that only looks, or published. -/
namespace Go.Proofs.YtfplalbognalkaaGreat.Ab
open Go
theorem take_get {ds:List D} {m:Nat} {xs:List E} (h:ds.take m=xs.map .e) {j:Nat} {d:E} (hd:xs[j]?=some d) (hj:j<m):ds[j]?=some (.e d):=by
 have:=congrArg (·[j]?) h
 simp only [List.getElem?_take,if_pos hj,List.getElem?_map,hd] at this
 exact this
mutual
def D.sc:D->Bool
 | .e (.v _)=>true
 | .agg ds=>scs ds
 | .tup ds=>scs ds
 | _=>false
def scs:List D->Bool
 | []=>true
 | d::r=>d.sc&&scs r
end
theorem scs_get: ∀ {ds:List D} {j:Nat} {d:D},scs ds=true->ds[j]?=some d->d.sc=true
 | [],j,d,_,hd=>by simp at hd
 | x::r,0,d,h,hd=>by
  simp only [scs,Bool.and_eq_true] at h
  simp at hd;subst hd;exact h.1
 | x::r,j+1,d,h,hd=>by
  simp only [scs,Bool.and_eq_true] at h
  exact scs_get h.2 (by simpa using hd)
theorem Rv.sc {w:World} {G:Gh} {h:Hp} {v:Value} {d:D} (r:Rv w G h v d) {w':World} {G':Gh} {h':Hp} (hs:d.sc=true):Rv w' G' h' v d:=by
 induction r with
 | @e x d h=>
  cases d with
  | v y=>cases h with | v h=>exact .e (.v h)
  | _=>simp [D.sc] at hs
 | agg hl h1 _ ih=>exact .agg hl h1 fun j c d hc hd=>ih j c d hc hd (scs_get (by simpa [D.sc] using hs) hd)
 | tup hl _ ih=>exact .tup hl fun j c d hc hd=>ih j c d hc hd (scs_get (by simpa [D.sc] using hs) hd)
 | _=>simp [D.sc] at hs
def Lent (h:Hp) (L:List Nat) (d a:D):Prop:=
 (a=d/\d.free=true)\/(a=d.pl/\d.pl.free=true)\/
 (∃i n k b ds es,d= .vec i n k/\i∈L/\h i= .vec b k ds/\a= .e (.sl es)/\ds.take (n * k)=es.flatten.map .e/\es.length=n/\ ∀e∈es,e.length=k)\/
 (∃i n k ds es,d= .bs i 0 n k/\i∈L/\h i= .box ds/\a= .e (.sl es)/\ds.take (n * k)=es.flatten.map .e/\es.length=n/\ ∀e∈es,e.length=k)
def Lents (h:Hp) (L:List Nat):List D->List D->Prop
 | [], []=>True
 | d::r,a::s=>Lent h L d a/\Lents h L r s
 | _,_=>False
theorem Lents.len {h:Hp} {L:List Nat} : ∀ {ds az:List D},Lents h L ds az->az.length=ds.length
 | [], [],_=>rfl
 | _::_,_::_,x=>by simp [Lents.len x.2]
 | [],_::_,x=>x.elim
 | _::_, [],x=>x.elim
theorem Lents.get {h:Hp} {L:List Nat} : ∀ {ds az:List D} {j:Nat} {a:D},Lents h L ds az->az[j]?=some a-> ∃d,ds[j]?=some d/\Lent h L d a
 | [], [],j,_,_,e=>by simp at e
 | d::_,_::_,0,_,x,e=>by simp at e;subst e;exact ⟨d,by simp,x.1⟩
 | _::_,_::_,j+1,_,x,e=>by obtain ⟨d,h1,h2⟩:=Lents.get x.2 (by simpa using e);exact ⟨d,by simpa using h1,h2⟩
 | [],_::_,_,_,x,_=>x.elim
 | _::_, [],_,_,x,_=>x.elim
def allPub (w:World) (G:Gh):Gh:=⟨fun b _=>b<w.heap.size,G.blk,G.sg,G.rv,G.rb⟩
theorem frame_look {w w':World} {G G1:Gh} {h h1:Hp} (hi:Inv w G h) (he:Ext w (allPub w G) (hpF []) w' G1 h1):Inv w' G h/\Ext w G h w' G h:=by
 rw [hpF_nil] at he
 have row: ∀b,b<w.heap.size->w'.heap[b]?=w.heap[b]?:=fun b hb=>he.others b hb (fun j hj=>by simp [O.has] at hj) fun j R e=>by simp at e
 have ext:Ext w G h w' G h:= {
  os:=he.os
  sgm:=fun _ _ e=>e
  idm:=fun j m e=>⟨m,e⟩
  rvm:=fun j R e=>⟨⟨R,e⟩,rfl⟩
  rbnew:=fun j R e b hb=> .inl ⟨j,R,e,hb⟩
  idn:=fun j m e=>⟨j,m,e⟩
  sgn:=fun _=>rfl
  sgw:=fun _ _ e=> .inl e
  tape:=he.tape
  output:=he.output
  size:=he.size
  pub:=fun b o p=>⟨p,by simp only [World.cell?];rw [row b (hi.publt b o p)]⟩
  box:=fun i ds e=>⟨⟨ds,e,rfl⟩,rfl⟩
  tok:=fun i n k e=>⟨n,e,Nat.le_refl _,fun _ hn=>⟨rfl,by simp only [World.shape?];rw [row _ (hi.lt i (by rw [e];simp [O.has,hn]))]⟩⟩
  others:=fun b hb _ _=>row b hb
  new:=fun i hi=> .inl ⟨i,hi,rfl⟩
  vec:=fun i b k ds e=> .inr ⟨ds,e,Nat.le_refl _,fun hb=>⟨rfl,by simp only [World.shape?];rw [row _ (hi.lt i (by rw [e];exact hb))]⟩⟩
  gone:=fun _ e=>e
  smap:=fun _ l e=>⟨⟨l,e⟩,rfl⟩
  pubnew:=fun b o p=> .inl p}
 refine ⟨⟨fun i hh=>Nat.lt_of_lt_of_le (hi.lt i hh) he.size,hi.inj,fun b o p=>Nat.lt_of_lt_of_le (hi.publt b o p) he.size,fun i ds e=>?_,fun i n k e hn=>?_,fun i b k ds e=>?_,fun i l e=>?_,hi.x.step he.size rfl rfl rfl (fun _ _ e=>e) (fun _ _ e=>e) ext.new ext.pubnew fun b hb _=>row b hb⟩,ext⟩
 ·obtain ⟨a1,cs,T,a2,a3,a4⟩:=hi.box i ds e
  exact ⟨a1,cs,T,by rw [<-a2];exact row _ (hi.lt i (by rw [e];rfl)),a3,fun j c d hc hd=>⟨(a4 j c d hc hd).1.ext ext,(a4 j c d hc hd).2⟩⟩
 ·obtain ⟨⟨cs,T,a1⟩,a2⟩:=hi.front i n k e hn
  exact ⟨⟨cs,T,by rw [<-a1];exact row _ (hi.lt i (by rw [e];simp [O.has,hn]))⟩,a2⟩
 ·obtain ⟨a0,a⟩:=hi.vec i b k ds e
  refine ⟨a0,fun hb=>?_⟩
  obtain ⟨a1,cs,T,a2,a3,a4⟩:=a hb
  exact ⟨a1,cs,T,by rw [<-a2];exact row _ (hi.lt i (by rw [e];exact hb)),a3,fun j c d hc hd=>⟨(a4 j c d hc hd).1.ext ext,(a4 j c d hc hd).2⟩⟩
 ·obtain ⟨a1,es,ck,a2,a3,a4⟩:=hi.smap i l e
  exact ⟨a1,es,ck,by rw [<-a2];exact row _ (hi.lt i (by rw [e];rfl)),a3,fun j e p a b=>⟨(a4 j e p a b).1,(a4 j e p a b).2.mono ext.pub ext.sgm⟩⟩
end Go.Proofs.YtfplalbognalkaaGreat.Ab
/- Calls that leave what they are handed as it was. -/
namespace Go.Proofs.YtfplalbognalkaaGreat.Ab
open Go
end Go.Proofs.YtfplalbognalkaaGreat.Ab
/- What is handed back gets a number: a slice that nobody else holds. -/
namespace Go.Proofs.YtfplalbognalkaaGreat.Ab
open Go
def Gh.seal (G:Gh) (x n m z:Nat):Gh:=⟨fun b o=>G.pub b o\/(b=x/\o<n),G.blk,fun j=>if j=m then some (x,z) else G.sg j,G.rv,G.rb⟩
theorem ids_hp {m i:Nat} :hpF [O.ids m] i=if i=0 then .ids m else .dead:=by
 cases i <;>simp [hpF]
theorem seal_mono {w:World} {G:Gh} {h:Hp} {t m x n z:Nat} (hi:Inv w G h) (ht:h t= .ids m) {v:Value} {e:E} (r:RvE w G v e):RvE w (G.seal x n m z) v e:=
 r.mono (G':=G.seal x n m z) (fun _ _ p=>⟨.inl p,rfl⟩) fun j b e=>by
  simp only [Gh.seal]
  rw [if_neg (fun q=>by rw [hi.x.ids _ _ ht j (by omega)] at e;cases e)]
  exact e
theorem seal_out {w:World} {G:Gh} {l:List O} {m0 m t i n z:Nat} (hi:Inv w G (hpF l)) (ht:hpF l t= .ids m) (hh:(hpF l i).has=true) (hz: ∃cs T,w.heap[G.blk i]?=some (.cells cs T (0,0))/\z<=cs.size):
  Inv w (G.seal (G.blk i) n m z) (hpF [.ids (m+1)])/\ ∀w0 G0,Ext w0 G0 (hpF [.ids m0]) w G (hpF l)->Ext w0 G0 (hpF [.ids m0]) w (G.seal (G.blk i) n m z) (hpF [.ids (m+1)]):=by
 have hlt:G.blk i<w.heap.size:=hi.lt i hh
 have nh: ∀j k,(hpF [O.ids k] j).has=false:=fun j k=>by rw [ids_hp];split <;>rfl
 have no: ∀ {j k:Nat} {o:O},hpF [O.ids k] j=o->(∀m,o≠ .ids m)->o= .dead:=fun {j k o} e h1=>by
  rw [ids_hp] at e
  split at e
  ·exact absurd e.symm (h1 _)
  ·exact e.symm
 have sg: ∀j b,(G.seal (G.blk i) n m z).sg j=some b->(j=m/\b=(G.blk i,z))\/(j≠m/\G.sg j=some b):=fun j b e=>by
  simp only [Gh.seal] at e
  split at e
  ·cases e;exact .inl ⟨by assumption,rfl⟩
  ·exact .inr ⟨by assumption,e⟩
 refine ⟨⟨fun j h=>?_,fun j k h=>?_,fun b o p=>?_,fun j ds e=>?_,fun j n k e=>?_,fun j b k ds e=>?_,fun j l e=>?_,⟨fun j b e=>?_,fun j k b c e1 e2 e3=>?_,fun j m' e k hk=>?_,fun j k m1 m2 e1 e2=>?_,fun j R e=>?_⟩⟩,fun w0 G0 e=>?_⟩
 ·rw [nh] at h;cases h
 ·rw [nh] at h;cases h
 ·rcases p with p | ⟨rfl,_⟩
  ·exact hi.publt b o p
  ·exact hlt
 ·have:=no e (by simp);cases this
 ·have:=no e (by simp);cases this
 ·have:=no e (by simp);cases this
 ·have:=no e (by simp);cases this
 ·rcases sg j b e with ⟨_,rfl⟩ | ⟨_,e⟩
  ·exact ⟨hlt,fun k h=>(by rw [nh] at h;cases h),hz⟩
  ·exact ⟨(hi.x.sgs j b e).1,fun k h=>(by rw [nh] at h;cases h),(hi.x.sgs j b e).2.2⟩
 ·rcases sg j b e1 with ⟨a1,a2⟩ | ⟨a1,a2⟩ <;>rcases sg k c e2 with ⟨c1,c2⟩ | ⟨c1,c2⟩
  ·omega
  ·exact absurd (by rw [<-e3,a2]) ((hi.x.sgs k _ c2).2.1 i hh)
  ·exact absurd (by rw [e3,c2]) ((hi.x.sgs j _ a2).2.1 i hh)
  ·exact hi.x.sgi j k b c a2 c2 e3
 ·rw [ids_hp] at e
  split at e
  ·cases e
   simp only [Gh.seal]
   rw [if_neg (by omega)]
   exact hi.x.ids _ _ ht k (by omega)
  ·cases e
 ·rw [ids_hp] at e1 e2
  split at e1
  ·split at e2
   ·omega
   ·cases e2
  ·cases e1
 ·have:=no e (by simp);cases this
 ·have fresh:w0.heap.size<=G.blk i:=by
   rcases e.new i hh with ⟨j,q,_⟩ | q
   ·rw [nh] at q;cases q
   ·exact q
  refine ⟨e.os,e.tape,e.output,e.size,fun b o p=>⟨.inl (e.pub b o p).1,(e.pub b o p).2⟩,fun j ds q=>?_,fun j n k q=>?_,fun b hb h1 h2=>e.others b hb h1 h2,fun j h=>?_,fun b o p=>?_,fun j b k ds q=>?_,fun j q=>?_,fun j l q=>?_,fun j b q=>?_,fun j m' q=>?_,fun j R q=>?_,fun j R q=>?_,fun j m' q=>?_,fun q=>?_,fun j b q=>?_⟩
  ·have:=no q (by simp);cases this
  ·have:=no q (by simp);cases this
  ·rw [nh] at h;cases h
  ·rcases p with p | ⟨rfl,_⟩
   ·exact e.pubnew b o p
   ·exact .inr (.inl fresh)
  ·have:=no q (by simp);cases this
  ·have:=no q (by simp);cases this
  ·have:=no q (by simp);cases this
  ·have q:=e.sgm j b q
   simp only [Gh.seal]
   rw [if_neg (fun q2=>by rw [hi.x.ids _ _ ht j (by omega)] at q;cases q)]
   exact q
  ·rw [ids_hp] at q
   split at q
   ·rename_i q0;subst q0;exact ⟨m+1,rfl⟩
   ·cases q
  ·have:=no q (by simp);cases this
  ·have:=no q (by simp);cases this
  ·rw [ids_hp] at q
   split at q
   ·exact ⟨0,m0,rfl⟩
   ·cases q
  ·exact absurd rfl (q 0 m0)
  ·rcases sg j b q with ⟨_,rfl⟩ | ⟨_,q⟩
   ·exact .inr (.inl fresh)
   ·exact e.sgw j b q
theorem tok_out {w:World} {G:Gh} {l:List O} {m0 m m1 t:Nat} (hi:Inv w G (hpF l)) (ht:hpF l t= .ids m) (hm:m<=m1):
  Inv w G (hpF [.ids m1])/\ ∀w0 G0,Ext w0 G0 (hpF [.ids m0]) w G (hpF l)->Ext w0 G0 (hpF [.ids m0]) w G (hpF [.ids m1]):=by
 have nh: ∀j k,(hpF [O.ids k] j).has=false:=fun j k=>by rw [ids_hp];split <;>rfl
 have no: ∀ {j k:Nat} {o:O},hpF [O.ids k] j=o->(∀m,o≠ .ids m)->o= .dead:=fun {j k o} e h1=>by
  rw [ids_hp] at e
  split at e
  ·exact absurd e.symm (h1 _)
  ·exact e.symm
 refine ⟨⟨fun j h=>?_,fun j k h=>?_,hi.publt,fun j ds e=>?_,fun j n k e=>?_,fun j b k ds e=>?_,fun j l e=>?_,⟨fun j b e=>⟨(hi.x.sgs j b e).1,fun k h=>(by rw [nh] at h;cases h),(hi.x.sgs j b e).2.2⟩,hi.x.sgi,fun j m' e k hk=>?_,fun j k m1 m2 e1 e2=>?_,fun j R e=>?_⟩⟩,fun w0 G0 e=>?_⟩
 ·rw [nh] at h;cases h
 ·rw [nh] at h;cases h
 ·have:=no e (by simp);cases this
 ·have:=no e (by simp);cases this
 ·have:=no e (by simp);cases this
 ·have:=no e (by simp);cases this
 ·rw [ids_hp] at e
  split at e
  ·cases e
   exact hi.x.ids _ _ ht k (by omega)
  ·cases e
 ·rw [ids_hp] at e1 e2
  split at e1
  ·split at e2
   ·omega
   ·cases e2
  ·cases e1
 ·have:=no e (by simp);cases this
 ·refine ⟨e.os,e.tape,e.output,e.size,e.pub,fun j ds q=>?_,fun j n k q=>?_,e.others,fun j h=>?_,e.pubnew,fun j b k ds q=>?_,fun j q=>?_,fun j l q=>?_,e.sgm,fun j m' q=>?_,fun j R q=>?_,fun j R q=>?_,fun j m' q=>?_,fun q=>?_,e.sgw⟩
  ·have:=no q (by simp);cases this
  ·have:=no q (by simp);cases this
  ·rw [nh] at h;cases h
  ·have:=no q (by simp);cases this
  ·have:=no q (by simp);cases this
  ·have:=no q (by simp);cases this
  ·rw [ids_hp] at q
   split at q
   ·rename_i q0;subst q0;exact ⟨m1,rfl⟩
   ·cases q
  ·have:=no q (by simp);cases this
  ·have:=no q (by simp);cases this
  ·rw [ids_hp] at q
   split at q
   ·exact ⟨0,m0,rfl⟩
   ·cases q
  ·exact absurd rfl (q 0 m0)
theorem finv_bsFs {l:List O} {m0 m t i n k:Nat} {es:List (List E)} (ht:hpF l t= .ids m) (hb:hpF l i= .box (es.flatten.map .e)) (hn:es.length=n) (hk: ∀e∈es,e.length=k):
  FinV [.ids m0] l (.bs i 0 n k) [.ids (m+1)] (.e (.fs m es)):=by
 intro w G v hi hr
 have hfl:es.flatten.length=n * k:=by rw [flatten_len hk,hn]
 obtain ⟨hnp,cs,T,hc,hcl,hcr⟩:=hi.box i _ hb
 obtain ⟨i1,x1⟩:=seal_out (m0:=m0) (n:=n * k) (z:=cs.size) hi ht (i:=i) (by rw [hb];rfl) ⟨cs,T,hc,Nat.le_refl _⟩
 refine ⟨_,?_,i1,x1⟩
 cases hr with
 | bs hb' hcap hl hm=>
  rename_i cap ds b o
  rw [hb] at hb'
  cases hb'
  refine .e ?_
  rcases hl with h0 | ⟨rfl,rfl,hsz⟩
  ·have:es= []:=List.length_eq_zero_iff.1 (by omega)
   subst this
   subst h0
   exact .fnils fun h=>by cases h
  ·refine .fs (k:=k) (z:=cs.size) (fun j=>cs.getD j undef) (by simp [Gh.seal]) (by omega) hn hcap hm hk (fun j hj=>?_) (fun j d hd=>?_)
   ·have hjc:j<cs.size:=by rw [hcl,List.length_map,hfl];exact hj
    rw [Nat.zero_add]
    exact ⟨.inr ⟨rfl,hj⟩,by simp [World.cell?,hc,hjc]⟩
   ·have hj:j<cs.size:=by rw [hcl,List.length_map];exact (List.getElem?_eq_some_iff.1 hd).1
    have:=(hcr j cs[j] (.e d) (by simp [hj]) (by rw [List.getElem?_map,hd];rfl)).1
    have hg:cs.getD j undef=cs[j]:=by simp [Array.getD,hj]
    rw [hg]
    exact seal_mono hi ht (rv_e this)
theorem finv_vecFs {l:List O} {m0 m t i n k:Nat} {b:Bool} {ds:List D} {es:List (List E)} (ht:hpF l t= .ids m) (hb:hpF l i= .vec b k ds) (hn:es.length=n) (hds:ds.take (n * k)=es.flatten.map .e) (hk: ∀e∈es,e.length=k):
  FinV [.ids m0] l (.vec i n k) [.ids (m+1)] (.e (.fs m es)):=by
 have hfl:es.flatten.length=n * k:=by rw [flatten_len hk,hn]
 intro w G v hi hr
 cases b with
 | true=>
  obtain ⟨_,cs,T,hcs,_⟩:=(hi.vec i _ _ _ hb).2 rfl
  obtain ⟨i1,x1⟩:=seal_out (m0:=m0) (n:=n * k) (z:=cs.size) hi ht (i:=i) (by rw [hb];rfl) ⟨cs,T,hcs,Nat.le_refl _⟩
  refine ⟨_,?_,i1,x1⟩
  obtain ⟨a,cap,rfl,_,hm,hnc,hvo⟩:=rv_vec hr
  obtain ⟨_,hlen,_,htt⟩:=hvo _ _ _ hb
  obtain ⟨rfl,cs2,T2,fr2,hcs2,hcap⟩:=htt rfl
  have hcap:cap * k<=cs.size:=by rw [hcs] at hcs2;cases hcs2;exact hcap
  obtain ⟨uu,hu1,hu2⟩:=vec_cells hi hb
  refine .e (.fs (k:=k) (z:=cs.size) uu (by simp [Gh.seal]) hcap hn hnc hm hk (fun j hj=>?_) (fun j d hd=>?_))
  ·rw [Nat.zero_add]
   exact ⟨.inr ⟨rfl,hj⟩,hu1 j (by omega)⟩
  ·have hj:j<n * k:=by rw [<-hfl];exact (List.getElem?_eq_some_iff.1 hd).1
   exact seal_mono hi ht (rv_e (hu2 j (.e d) (take_get hds hd hj)).1)
 | false=>
  obtain ⟨i1,x1⟩:=tok_out (m0:=m0) (m1:=m+1) hi ht (by omega)
  refine ⟨G,?_,i1,x1⟩
  obtain ⟨a,cap,rfl,_,hm,hnc,hvo⟩:=rv_vec hr
  obtain ⟨_,_,hff,_⟩:=hvo _ _ _ hb
  obtain ⟨rfl,rfl,_⟩:=hff rfl
  have:es= []:=List.length_eq_zero_iff.1 hn
  subst this
  exact .e (.fnils fun _=>rfl)
theorem finv_tok {l:List O} {m0 m t:Nat} {d' d:D} (ht:hpF l t= .ids m) (h:d'.pl=d) (hf:d.free=true):FinV [.ids m0] l d' [.ids m] d:=by
 intro w G v hi hr
 obtain ⟨i1,x1⟩:=tok_out (m0:=m0) (m1:=m) hi ht (Nat.le_refl _)
 have:=hr.pl
 rw [h] at this
 exact ⟨G,this.free hf rfl rfl,i1,x1⟩
mutual
def E.un:E->E
 | .v x=> .v x
 | .sl es=> .sl (unss es)
 | .iv t e=> .iv t e.un
 | .ia t es=> .ia t (uns es)
 | .fs _ es=> .sl (unss es)
def uns:List E->List E
 | []=> []
 | e::r=>e.un::uns r
def unss:List (List E)->List (List E)
 | []=> []
 | e::r=>uns e::unss r
end
theorem uns_map: ∀es:List E,uns es=es.map E.un
 | []=>rfl
 | e::r=>by rw [uns,uns_map r];rfl
theorem unss_map: ∀es:List (List E),unss es=es.map fun e=>e.map E.un
 | []=>rfl
 | e::r=>by rw [unss,unss_map r,uns_map];rfl
theorem unss_flat (es:List (List E)):(unss es).flatten=es.flatten.map E.un:=by
 rw [unss_map,List.map_flatten]
theorem RvE.un {w:World} {G:Gh} {v:Value} {e:E} (r:RvE w G v e):RvE w G v e.un:=by
 induction r with
 | v h=>exact .v h
 | nils h=>exact .nils h
 | @sl b off n cap k es u hn hc hm hk hp hr ih=>
  refine .sl (k:=k) u (by rw [unss_map,List.length_map];exact hn) hc hm (fun e he=>?_) hp fun j d hd=>?_
  ·rw [unss_map] at he
   obtain ⟨e0,h0,rfl⟩:=List.mem_map.1 he
   rw [List.length_map];exact hk _ h0
  ·rw [unss_flat,List.getElem?_map] at hd
   obtain ⟨d0,h0,rfl⟩:=Option.map_eq_some_iff.1 hd
   exact ih j d0 h0
 | iv _ ih=>exact .iv ih
 | @ia t cs ds hl _ ih=>
  refine .ia (by rw [uns_map,List.length_map];exact hl) fun j c d hc hd=>?_
  rw [uns_map,List.getElem?_map] at hd
  obtain ⟨d0,h0,rfl⟩:=Option.map_eq_some_iff.1 hd
  exact ih j c d0 hc h0
 | @fs i b n cap k es z u hs hz hn hc hm hk hp hr ih=>
  refine .sl (k:=k) u (by rw [unss_map,List.length_map];exact hn) hc hm (fun e he=>?_) hp fun j d hd=>?_
  ·rw [unss_map] at he
   obtain ⟨e0,h0,rfl⟩:=List.mem_map.1 he
   rw [List.length_map];exact hk _ h0
  ·rw [unss_flat,List.getElem?_map] at hd
   obtain ⟨d0,h0,rfl⟩:=Option.map_eq_some_iff.1 hd
   exact ih j d0 h0
 | fnils h=>exact .nils h
end Go.Proofs.YtfplalbognalkaaGreat.Ab
/- Trees in memory that only their holder knows: each slice has a block of its own. -/
namespace Go.Proofs.YtfplalbognalkaaGreat.Ab
open Go
inductive TreeAt (w:World):Value->List Nat->E->Prop
 | v {x} (h:okV x=true):TreeAt w x [] (.v x)
 | nil {a:Option Addr} {cap i:Nat} (h:a=none->cap=0):TreeAt w (.slice a 0 cap) [] (.fs i [])
 | fs {b n cap k i:Nat} {es:List (List E)} {cs:Array Value} {T:TypeId} (bss:List (List Nat)) (hn:es.length=n) (hc:n<=cap) (hm:n<=maxN) (hk: ∀e∈es,e.length=k)
   (hb:w.heap[b]?=some (.cells cs T (0,0))) (hsz:cap * k<=cs.size) (hl:bss.length=n * k)
   (hr: ∀(j:Nat) d,es.flatten[j]?=some d->TreeAt w (cs.getD j undef) (bss.getD j []) d):TreeAt w (.slice (some ⟨b,0,none⟩) n cap) (b::bss.flatten) (.fs i es)
theorem TreeAt.cell {w v bs e} (h:TreeAt w v bs e):v.oneCell'=true:=by
 cases h <;>first | exact okV.cell (by assumption) | rfl
theorem mem_getD_flatten {bss:List (List Nat)} {j b:Nat} (h:b∈bss.getD j []):b∈bss.flatten:=by
 rcases Nat.lt_or_ge j bss.length with q | q
 ·rw [List.getD,List.getElem?_eq_getElem q] at h
  exact List.mem_flatten.2 ⟨_,List.getElem_mem q,h⟩
 ·rw [List.getD,List.getElem?_eq_none q] at h
  cases h
theorem TreeAt.frame {w w':World} {v:Value} {bs:List Nat} {e:E} (h:TreeAt w v bs e):(∀b∈bs,w'.heap[b]?=w.heap[b]?)->TreeAt w' v bs e:=by
 induction h with
 | v h=>exact fun _=> .v h
 | nil h=>exact fun _=> .nil h
 | fs bss hn hc hm hk hb hsz hl hr ih=>
  intro hw
  exact .fs bss hn hc hm hk (by rw [hw _ (by simp)];exact hb) hsz hl fun j d hd=>ih j d hd fun b hb=>hw b (by simp only [List.mem_cons];exact .inr (mem_getD_flatten hb))
theorem TreeAt.rvE {w:World} {v:Value} {bs:List Nat} {e:E} (h:TreeAt w v bs e) {G:Gh} :(∀b∈bs,∀o,G.pub b o)->RvE w G v e.un:=by
 induction h with
 | v h=>exact fun _=> .v h
 | nil h=>exact fun _=> .nils h
 | @fs b n cap k i es cs T bss hn hc hm hk hb hsz hl hr ih=>
  intro hp
  have hfl:es.flatten.length=n * k:=by rw [flatten_len hk,hn]
  refine .sl (k:=k) (fun j=>cs.getD j undef) (by rw [unss_map,List.length_map];exact hn) hc hm (fun e he=>?_) (fun j hj=>⟨hp b (by simp) _,?_⟩) fun j d hd=>?_
  ·rw [unss_map] at he
   obtain ⟨e0,h0,rfl⟩:=List.mem_map.1 he
   rw [List.length_map];exact hk _ h0
  ·have hjc:j<cs.size:=Nat.lt_of_lt_of_le hj (Nat.le_trans (Nat.mul_le_mul_right k hc) hsz)
   rw [Nat.zero_add]
   simp [World.cell?,hb,hjc,Array.getD]
  ·rw [unss_flat,List.getElem?_map] at hd
   obtain ⟨d0,h0,rfl⟩:=Option.map_eq_some_iff.1 hd
   exact ih j d0 h0 fun b' hb' o=>hp b' (by simp only [List.mem_cons];exact .inr (mem_getD_flatten hb')) o
mutual
def E.nums:E->Option (List Nat)
 | .v _=>some []
 | .fs _ []=>some []
 | .fs i es=>(numss es).map fun l=>i::l
 | _=>none
def numsr:List E->Option (List Nat)
 | []=>some []
 | e::r=>match e.nums,numsr r with
  | some a,some b=>some (a++b)
  | _,_=>none
def numss:List (List E)->Option (List Nat)
 | []=>some []
 | e::r=>match numsr e,numss r with
  | some a,some b=>some (a++b)
  | _,_=>none
end
theorem numss_flat: ∀es:List (List E),∀ns,numss es=some ns->numsr es.flatten=some ns
 | [],ns,h=>h
 | e::r,ns,h=>by
  have app: ∀(a b:List E) (x y:List Nat),numsr a=some x->numsr b=some y->numsr (a++b)=some (x++y):=by
   intro a
   induction a with
   | nil=>intro b x y h1 h2;simp only [numsr,Option.some.injEq] at h1;subst h1;exact h2
   | cons c a ih=>
    intro b x y h1 h2
    simp only [numsr] at h1
    split at h1
    ·rename_i p q e1 e2
     cases h1
     simp only [List.cons_append,numsr,e1,ih b q y e2 h2,List.append_assoc]
    ·cases h1
  simp only [numss] at h
  split at h
  ·rename_i a b e1 e2
   cases h
   exact app _ _ _ _ e1 (numss_flat r b e2)
  ·cases h
def Blks (G:Gh):List Nat->List Nat->Prop
 | [], []=>True
 | j::ns,b::bs=>(∃z,G.sg j=some (b,z))/\Blks G ns bs
 | _,_=>False
theorem Blks.app {G:Gh} : ∀ {n1 b1 n2 b2:List Nat},Blks G n1 b1->Blks G n2 b2->Blks G (n1++n2) (b1++b2)
 | [], [],_,_,_,h=>h
 | _::_,_::_,_,_,h1,h2=>⟨h1.1,Blks.app h1.2 h2⟩
 | [],_::_,_,_,h,_=>h.elim
 | _::_, [],_,_,h,_=>h.elim
theorem Blks.mem {G:Gh} : ∀ {ns bs:List Nat} {b:Nat},Blks G ns bs->b∈bs-> ∃j∈ns,∃z,G.sg j=some (b,z)
 | _::_,_::_,b,h,hb=>by
  rcases List.mem_cons.1 hb with rfl | hb
  ·exact ⟨_,List.mem_cons_self,h.1⟩
  ·obtain ⟨j,h1,h2⟩:=Blks.mem h.2 hb
   exact ⟨j,List.mem_cons_of_mem _ h1,h2⟩
 | [], [],_,_,hb=>by cases hb
 | [],_::_,_,h,_=>h.elim
theorem Blks.nodup {G:Gh} (hi: ∀i j b c,G.sg i=some b->G.sg j=some c->b.1=c.1->i=j): ∀ {ns bs:List Nat},Blks G ns bs->ns.Nodup->bs.Nodup
 | [], [],_,_=>List.nodup_nil
 | j::ns,b::bs,h,hn=>by
  obtain ⟨h1,h2⟩:=List.nodup_cons.1 hn
  refine List.nodup_cons.2 ⟨fun hb=>?_,Blks.nodup hi h.2 h2⟩
  obtain ⟨j',m1,z',e'⟩:=h.2.mem hb
  obtain ⟨z,e⟩:=h.1
  have:=hi _ _ _ _ e e' rfl
  subst this
  exact h1 m1
 | [],_::_,h,_=>h.elim
 | _::_, [],h,_=>h.elim
theorem trees_of {w:World} {G:Gh} : ∀(l:List E) (u:Nat->Value) (ns:List Nat),(∀(j:Nat) d,l[j]?=some d-> ∀ns,d.nums=some ns-> ∃bs,TreeAt w (u j) bs d/\Blks G ns bs)->numsr l=some ns->
  ∃bss:List (List Nat),bss.length=l.length/\(∀(j:Nat) d,l[j]?=some d->TreeAt w (u j) (bss.getD j []) d)/\Blks G ns bss.flatten
 | [],_,ns,_,hn=>by
  simp only [numsr,Option.some.injEq] at hn
  subst hn
  exact ⟨[],rfl,fun j d h=>by simp at h,trivial⟩
 | e::l,u,ns,h,hn=>by
  simp only [numsr] at hn
  split at hn
  ·rename_i a b e1 e2
   cases hn
   obtain ⟨bs,t1,t2⟩:=h 0 e rfl a e1
   obtain ⟨bss,q1,q2,q3⟩:=trees_of l (fun j=>u (j+1)) b (fun j d hd=>h (j+1) d (by simpa using hd)) e2
   refine ⟨bs::bss,by simp [q1],fun j d hd=>?_,by rw [List.flatten_cons];exact t2.app q3⟩
   cases j with
   | zero=>simp at hd;subst hd;exact t1
   | succ j=>exact q2 j d (by simpa using hd)
  ·cases hn
theorem RvE.tree {w:World} {G:Gh} (hs: ∀j b,G.sg j=some b-> ∃cs T,w.heap[b.1]?=some (.cells cs T (0,0))/\b.2<=cs.size) {v:Value} {e:E} (r:RvE w G v e): ∀ns,e.nums=some ns-> ∃bs,TreeAt w v bs e/\Blks G ns bs:=by
 induction r with
 | v h=>intro ns hn;simp only [E.nums,Option.some.injEq] at hn;subst hn;exact ⟨[],.v h,trivial⟩
 | nils h=>intro ns hn;simp [E.nums] at hn
 | sl=>intro ns hn;simp [E.nums] at hn
 | iv=>intro ns hn;simp [E.nums] at hn
 | ia=>intro ns hn;simp [E.nums] at hn
 | fnils h=>intro ns hn;simp only [E.nums,Option.some.injEq] at hn;subst hn;exact ⟨[],.nil h,trivial⟩
 | @fs i b n cap k es z u hg hz hn hc hm hk hp hr ih=>
  intro ns hns
  by_cases he:es= []
  ·subst he
   simp only [E.nums,Option.some.injEq] at hns
   subst hns
   subst hn
   exact ⟨[],.nil fun h=>(by cases h),trivial⟩
  ·have hns': ∃l,numss es=some l/\ns=i::l:=by
    cases es with
    | nil=>exact absurd rfl he
    | cons a es=>
     simp only [E.nums,Option.map_eq_some_iff] at hns
     obtain ⟨l,h1,h2⟩:=hns
     exact ⟨l,h1,h2.symm⟩
   obtain ⟨l,hl,rfl⟩:=hns'
   obtain ⟨cs,T,hcs,hsz⟩:=hs i _ hg
   have hfl:es.flatten.length=n * k:=by rw [flatten_len hk,hn]
   obtain ⟨bss,q1,q2,q3⟩:=trees_of es.flatten u l ih (numss_flat es l hl)
   refine ⟨b::bss.flatten,.fs (T:=T) bss hn hc hm hk hcs (Nat.le_trans hz hsz) (q1.trans hfl) fun j d hd=>?_,⟨z,hg⟩,q3⟩
   have hj:j<n * k:=by rw [<-hfl];exact (List.getElem?_eq_some_iff.1 hd).1
   have hc2:=(hp j hj).2
   have hjc:j<cs.size:=Nat.lt_of_lt_of_le hj (Nat.le_trans (Nat.mul_le_mul_right k hc) (Nat.le_trans hz hsz))
   rw [Nat.zero_add] at hc2
   simp only [World.cell?,hcs] at hc2
   have hu:cs.getD j undef=u j:=by
    simp only [Array.getD,hjc,dite_true]
    simpa [hjc] using hc2
   rw [hu]
   exact q2 j d hd
end Go.Proofs.YtfplalbognalkaaGreat.Ab
/- Calls whose answer is a tree that only the caller knows. -/
namespace Go.Proofs.YtfplalbognalkaaGreat.Ab
open Go
def Gh.more (G:Gh) (f:Nat) (v:Value) (bs:List Nat):Gh:=⟨G.pub,G.blk,G.sg,fun i=>if i=f then v else G.rv i,fun i=>if i=f then bs else G.rb i⟩
theorem frame_new {w w':World} {G:Gh} {h h':Hp} {f:Nat} {v:Value} {bs:List Nat} {R:World->Value->List Nat->Prop} (hi:Inv w G h) (hf:h f= .dead) (h1:h' f= .res R) (h2: ∀j,j≠f->h' j=h j)
  (os:w'.os=w.os) (tape:w'.tape=w.tape) (output:w'.output=w.output) (size:w.heap.size<=w'.heap.size) (row: ∀b,b<w.heap.size->w'.heap[b]?=w.heap[b]?)
  (hbs: ∀b∈bs,w.heap.size<=b/\b<w'.heap.size) (hR: ∀w2:World,(∀b∈bs,w2.heap[b]?=w'.heap[b]?)->R w2 v bs):
  Inv w' (G.more f v bs) h'/\Ext w G h w' (G.more f v bs) h':=by
 have hne: ∀j,(h' j).has=true->j≠f/\(h j).has=true:=fun j hj=>by
  have q:j≠f:=fun q=>by rw [q,h1] at hj;cases hj
  exact ⟨q,by rw [<-h2 j q];exact hj⟩
 have nd: ∀ {j o},h j=o->o≠ .dead->h' j=o:=fun {j o} e q=>by
  rw [h2 j (fun q2=>q (by rw [<-e,q2,hf]))];exact e
 have back: ∀ {j o},h' j=o->(∀R,o≠ .res R)->h j=o:=fun {j o} e q=>by
  rw [<-h2 j (fun q2=>q R (by rw [<-e,q2,h1]))];exact e
 have ext:Ext w G h w' (G.more f v bs) h':= {
  os:=os
  tape:=tape
  output:=output
  size:=size
  sgm:=fun _ _ e=>e
  idm:=fun j m e=>⟨m,nd e (by simp)⟩
  rvm:=fun j R e=>⟨⟨R,nd e (by simp)⟩,if_neg (fun q=>by rw [q,hf] at e;cases e)⟩
  rbnew:=fun j R' e b hb=>by
   simp only [Gh.more] at hb
   split at hb
   ·exact .inr (hbs b hb).1
   ·rename_i q
    exact .inl ⟨j,R',by rw [<-h2 j q];exact e,hb⟩
  idn:=fun j m e=>⟨j,m,back e (by simp)⟩
  sgn:=fun _=>rfl
  sgw:=fun _ _ e=> .inl e
  pub:=fun b o p=>⟨p,by simp only [World.cell?];rw [row b (hi.publt b o p)]⟩
  box:=fun i ds e=>⟨⟨ds,nd e (by simp),rfl⟩,rfl⟩
  tok:=fun i n k e=>⟨n,nd e (by simp),Nat.le_refl _,fun _ hn=>⟨rfl,by simp only [World.shape?];rw [row _ (hi.lt i (by rw [e];simp [O.has,hn]))]⟩⟩
  others:=fun b hb _ _=>row b hb
  new:=fun i hi=> .inl ⟨i,(hne i hi).2,rfl⟩
  vec:=fun i b k ds e=> .inr ⟨ds,nd e (by simp),Nat.le_refl _,fun hb=>⟨rfl,by simp only [World.shape?];rw [row _ (hi.lt i (by rw [e];exact hb))]⟩⟩
  gone:=fun _ e=>nd e (by simp)
  smap:=fun _ l e=>⟨⟨l,nd e (by simp)⟩,rfl⟩
  pubnew:=fun b o p=> .inl p}
 refine ⟨⟨fun i hh=>Nat.lt_of_lt_of_le (hi.lt i (hne i hh).2) size,fun i j a c e=>hi.inj i j (hne i a).2 (hne j c).2 e,fun b o p=>Nat.lt_of_lt_of_le (hi.publt b o p) size,fun i ds e=>?_,fun i n k e hn=>?_,fun i b k ds e=>?_,fun i l e=>?_,
  ⟨fun j b e=>?_,hi.x.sgi,fun i m e=>hi.x.ids i m (back e (by simp)),fun i j m m' a c=>hi.x.idu i j m m' (back a (by simp)) (back c (by simp)),fun i R' e=>?_⟩⟩,ext⟩
 ·obtain ⟨a1,cs,T,a2,a3,a4⟩:=hi.box i ds (back e (by simp))
  exact ⟨a1,cs,T,by rw [<-a2];exact row _ (hi.lt i (hne i (by rw [e];rfl)).2),a3,fun j c d hc hd=>⟨(a4 j c d hc hd).1.ext ext,(a4 j c d hc hd).2⟩⟩
 ·obtain ⟨⟨cs,T,a1⟩,a2⟩:=hi.front i n k (back e (by simp)) hn
  exact ⟨⟨cs,T,by rw [<-a1];exact row _ (hi.lt i (hne i (by rw [e];simp [O.has,hn])).2)⟩,a2⟩
 ·obtain ⟨a0,a⟩:=hi.vec i b k ds (back e (by simp))
  refine ⟨a0,fun hb=>?_⟩
  obtain ⟨a1,cs,T,a2,a3,a4⟩:=a hb
  exact ⟨a1,cs,T,by rw [<-a2];exact row _ (hi.lt i (hne i (by rw [e];exact hb)).2),a3,fun j c d hc hd=>⟨(a4 j c d hc hd).1.ext ext,(a4 j c d hc hd).2⟩⟩
 ·obtain ⟨a1,es,ck,a2,a3,a4⟩:=hi.smap i l (back e (by simp))
  exact ⟨a1,es,ck,by rw [<-a2];exact row _ (hi.lt i (hne i (by rw [e];rfl)).2),a3,fun j e p a b=>⟨(a4 j e p a b).1,RvE.mono (G':=G.more f v bs) ext.pub ext.sgm (a4 j e p a b).2⟩⟩
 ·obtain ⟨a,c,d⟩:=hi.x.sgs j b e
  exact ⟨Nat.lt_of_lt_of_le a size,fun i hh=>c i (hne i hh).2,by rw [row _ a];exact d⟩
 ·by_cases q:i=f
  ·subst q
   rw [h1] at e
   cases e
   show (∀w2:World,(∀b∈(if i=i then bs else G.rb i),w2.heap[b]?=w'.heap[b]?)->R w2 (if i=i then v else G.rv i) (if i=i then bs else G.rb i))/\ ∀b∈(if i=i then bs else G.rb i),_
   rw [if_pos rfl,if_pos rfl]
   refine ⟨hR,fun b hb=>?_⟩
   obtain ⟨c1,c2⟩:=hbs b hb
   refine ⟨c2,fun o p=>?_,fun j c ec eb=>?_,fun j hj eb=>?_,fun j R' ej hbj=>?_⟩
   ·have:=hi.publt b o p;omega
   ·have:=(hi.x.sgs j c ec).1;omega
   ·have:=hi.lt j (hne j hj).2
    have eb:G.blk j=b:=eb
    omega
   ·by_cases q:j=i
    ·exact q.symm
    ·have hbj:b∈(if j=i then bs else G.rb j):=hbj
     rw [if_neg q] at hbj
     have:=((hi.x.res j R' (by rw [<-h2 j q];exact ej)).2 b hbj).1
     omega
  ·rw [h2 i q] at e
   obtain ⟨a,c⟩:=hi.x.res i R' e
   show (∀w2:World,(∀b∈(if i=f then bs else G.rb i),w2.heap[b]?=w'.heap[b]?)->R' w2 (if i=f then v else G.rv i) (if i=f then bs else G.rb i))/\ ∀b∈(if i=f then bs else G.rb i),_
   rw [if_neg q,if_neg q]
   refine ⟨fun w2 hw=>a w2 fun b hb=>by rw [hw b hb];exact row b (c b hb).1,fun b hb=>?_⟩
   obtain ⟨c1,c2,c3,c4,c5⟩:=c b hb
   refine ⟨Nat.lt_of_lt_of_le c1 size,c2,c3,fun j hj=>c4 j (hne j hj).2,fun j R2 ej hbj=>?_⟩
   have hbj:b∈(if j=f then bs else G.rb j):=hbj
   by_cases q2:j=f
   ·rw [if_pos q2] at hbj
    have:=(hbs b hbj).1;omega
   ·rw [if_neg q2] at hbj
    exact c5 j R2 (by rw [<-h2 j q2];exact ej) hbj
mutual
theorem E.un_un: ∀e:E,e.un.un=e.un
 | .v _=>rfl
 | .sl es=>by rw [E.un,E.un,unss_unss es]
 | .iv t e=>by rw [E.un,E.un,E.un_un e]
 | .ia t es=>by rw [E.un,E.un,uns_uns es]
 | .fs _ es=>by rw [E.un,E.un,unss_unss es]
theorem uns_uns: ∀es:List E,uns (uns es)=uns es
 | []=>rfl
 | e::r=>by rw [uns,uns,E.un_un e,uns_uns r]
theorem unss_unss: ∀es:List (List E),unss (unss es)=unss es
 | []=>rfl
 | e::r=>by rw [unss,unss,uns_uns e,unss_unss r]
end
theorem RvE.fr {w:World} {G G':Gh} {v:Value} {e:E} (hq: ∀b o,G.pub b o->G'.pub b o) (r:RvE w G v e):RvE w G' v e.un:=by
 induction r with
 | v h=>exact .v h
 | nils h=>exact .nils h
 | @sl b off n cap k es u hn hc hm hk hp hr ih=>
  refine .sl (k:=k) u (by rw [unss_map,List.length_map];exact hn) hc hm (fun e he=>?_) (fun j hj=>⟨hq _ _ (hp j hj).1,(hp j hj).2⟩) fun j d hd=>?_
  ·rw [unss_map] at he
   obtain ⟨e0,h0,rfl⟩:=List.mem_map.1 he
   rw [List.length_map];exact hk _ h0
  ·rw [unss_flat,List.getElem?_map] at hd
   obtain ⟨d0,h0,rfl⟩:=Option.map_eq_some_iff.1 hd
   exact ih j d0 h0
 | iv _ ih=>exact .iv ih
 | @ia t cs ds hl _ ih=>
  refine .ia (by rw [uns_map,List.length_map];exact hl) fun j c d hc hd=>?_
  rw [uns_map,List.getElem?_map] at hd
  obtain ⟨d0,h0,rfl⟩:=Option.map_eq_some_iff.1 hd
  exact ih j c d0 hc h0
 | @fs i b n cap k es z u hs hz hn hc hm hk hp hr ih=>
  refine .sl (k:=k) u (by rw [unss_map,List.length_map];exact hn) hc hm (fun e he=>?_) (fun j hj=>⟨hq _ _ (hp j hj).1,(hp j hj).2⟩) fun j d hd=>?_
  ·rw [unss_map] at he
   obtain ⟨e0,h0,rfl⟩:=List.mem_map.1 he
   rw [List.length_map];exact hk _ h0
  ·rw [unss_flat,List.getElem?_map] at hd
   obtain ⟨d0,h0,rfl⟩:=Option.map_eq_some_iff.1 hd
   exact ih j d0 h0
 | fnils h=>exact .nils h
def Tree (e:E):World->Value->List Nat->Prop:=fun w v bs=>bs.Nodup/\TreeAt w v bs e
inductive LentT (h:Hp) (L:List Nat):D->D->Prop
 | e {a:E} (hf:a.un=a):LentT h L (.e a) (.e a)
 | rv {i:Nat} {e:E} (hL:i∈L) (hb:h i= .res (Tree e)):LentT h L (.rv i) (.e e.un)
 | agg {ds bz:List D} (hl:ds.length=bz.length) (hr: ∀(j:Nat) d a,ds[j]?=some d->bz[j]?=some a->LentT h L d a):LentT h L (.agg ds) (.agg bz)
def LentTs (h:Hp) (L:List Nat):List D->List D->Prop
 | [], []=>True
 | d::r,a::s=>LentT h L d a/\LentTs h L r s
 | _,_=>False
theorem LentTs.len {h:Hp} {L:List Nat} : ∀ {ds:List D} {az:List D},LentTs h L ds az->ds.length=az.length
 | [], [],_=>rfl
 | _::_,_::_,x=>by simp [LentTs.len x.2]
 | [],_::_,x=>x.elim
 | _::_, [],x=>x.elim
theorem LentTs.get {h:Hp} {L:List Nat} : ∀ {ds:List D} {az:List D} {j:Nat} {a:D},LentTs h L ds az->az[j]?=some a-> ∃d,ds[j]?=some d/\LentT h L d a
 | [], [],j,_,_,e=>by simp at e
 | d::_,_::_,0,_,x,e=>by simp at e;subst e;exact ⟨d,by simp,x.1⟩
 | _::_,_::_,j+1,_,x,e=>by obtain ⟨d,h1,h2⟩:=LentTs.get x.2 (by simpa using e);exact ⟨d,by simpa using h1,h2⟩
 | [],_::_,_,_,x,_=>x.elim
 | _::_, [],_,_,x,_=>x.elim
theorem LentTs.agg {h:Hp} {L:List Nat} {ds bz:List D} (x:LentTs h L ds bz):LentT h L (.agg ds) (.agg bz):= .agg x.len fun j d a hd ha=>by
 obtain ⟨d',h1,h2⟩:=x.get ha
 rw [hd] at h1
 cases h1
 exact h2
def Swap (f:Nat) (x:E) (d0 d1:D):Prop:= ∀(w:World) (G:Gh) (h:Hp) (v:Value),Rv w G h v d0-> ∃u,RvE w G u x/\ ∀(w2:World) (G2:Gh) (h2:Hp),Rv w2 G2 h2 u (.rv f)->Rv w2 G2 h2 v d1
theorem Swap.e {f:Nat} {x:E} :Swap f x (.e x) (.rv f):=fun _ _ _ v r=>⟨v,rv_e r,fun _ _ _ r=>r⟩
theorem Swap.agg {f:Nat} {x:E} {d0 d1:D} {ds:List D} (s:Swap f x d0 d1) (hs:scs ds=true):Swap f x (.agg (d0::ds)) (.agg (d1::ds)):=fun w G h v r=>by
 cases r with
 | @agg cs _ hl h1 hr=>
  have h0:0<cs.size:=by rw [hl];simp
  obtain ⟨u,q1,q2⟩:=s w G h cs[0] (hr 0 cs[0] d0 (by simp [h0]) rfl)
  refine ⟨u,q1,fun w2 G2 h2 r2=> .agg (by simpa using hl) h1 fun j c d hc hd=>?_⟩
  cases j with
  | zero=>
   simp at hd
   subst hd
   have:cs[0]=c:=by simpa [h0] using hc
   rw [<-this]
   exact q2 w2 G2 h2 r2
  | succ j=>exact (hr (j+1) c d hc (by simpa using hd)).sc (scs_get hs (by simpa using hd))
theorem Swap.tup {f:Nat} {x:E} {d0 d1:D} {ds:List D} (s:Swap f x d0 d1) (hs:scs ds=true):Swap f x (.tup (d0::ds)) (.tup (d1::ds)):=fun w G h v r=>by
 cases r with
 | @tup cs _ hl hr=>
  have h0:0<cs.size:=by rw [hl];simp
  obtain ⟨u,q1,q2⟩:=s w G h cs[0] (hr 0 cs[0] d0 (by simp [h0]) rfl)
  refine ⟨u,q1,fun w2 G2 h2 r2=> .tup (by simpa using hl) fun j c d hc hd=>?_⟩
  cases j with
  | zero=>
   simp at hd
   subst hd
   have:cs[0]=c:=by simpa [h0] using hc
   rw [<-this]
   exact q2 w2 G2 h2 r2
  | succ j=>exact (hr (j+1) c d hc (by simpa using hd)).sc (scs_get hs (by simpa using hd))
def pub0 (w:World):Gh:=⟨fun b _=>b<w.heap.size,fun _=>0,fun _=>none,fun _=> .bool true,fun _=> []⟩
theorem pub0_inv {w:World} :Inv w (pub0 w) (hpF [.ids 0]):=by
 have nh: ∀j k,(hpF [O.ids k] j).has=false:=fun j k=>by rw [ids_hp];split <;>rfl
 have no: ∀ {j k:Nat} {o:O},hpF [O.ids k] j=o->(∀m,o≠ .ids m)->o= .dead:=fun {j k o} e h1=>by
  rw [ids_hp] at e
  split at e
  ·exact absurd e.symm (h1 _)
  ·exact e.symm
 refine ⟨fun j h=>?_,fun j k h=>?_,fun _ _ p=>p,fun j ds e=>?_,fun j n k e=>?_,fun j b k ds e=>?_,fun j l e=>?_,⟨fun j b e=>(by cases e),fun j k b c e=>(by cases e),fun j m' e k hk=>rfl,fun j k m1 m2 e1 e2=>?_,fun j R e=>?_⟩⟩
 ·rw [nh] at h;cases h
 ·rw [nh] at h;cases h
 ·have:=no e (by simp);cases this
 ·have:=no e (by simp);cases this
 ·have:=no e (by simp);cases this
 ·have:=no e (by simp);cases this
 ·rw [ids_hp] at e1 e2
  split at e1
  ·split at e2
   ·omega
   ·cases e2
  ·cases e1
 ·have:=no e (by simp);cases this
theorem lentT_rv {w:World} {G:Gh} {h h':Hp} {L:List Nat} (hi:Inv w G h') (he: ∀i∈L,h' i=h i) {d:D} {a:D} (x:LentT h L d a) {hh:Hp} : ∀ {v:Value},Rv w G h' v d->Rv w (pub0 w) hh v a:=by
 induction x with
 | e hf=>
  intro v r
  refine .e ?_
  rw [<-hf]
  exact (rv_e r).fr fun b o p=>hi.publt b o p
 | @rv i e hL hb=>
  intro v r
  rw [<-he i hL] at hb
  cases r with
  | rv _ _=>
   obtain ⟨q1,q2⟩:=hi.x.res i _ hb
   obtain ⟨_,t⟩:=q1 w fun _ _=>rfl
   exact .e (t.rvE fun b hb o=>(q2 b hb).1)
 | @agg ds bz hl hr ih=>
  intro v r
  cases r with
  | @agg cs _ hl2 h1 hr2=>
   refine .agg (hl2.trans hl) h1 fun j c a hc ha=>?_
   have hj:j<ds.length:=by rw [hl];exact (List.getElem?_eq_some_iff.1 ha).1
   exact ih j ds[j] a (by simp [hj]) ha (hr2 j c ds[j] hc (by simp [hj]))
theorem Proc.callT {P:Program} {fn:FuncId} {ds:List D} {az:List D} {m:Nat} {e:E} {ns:List Nat} {h0:Hp} {L:List Nat} {f:Nat} {d0 d1:D} (h:Proc P fn (fun _=>az) (fun _=> [.ids 0]) (fun _=>d0) (fun _=> [.ids m])) (hns:e.nums=some ns) (hnd:ns.Nodup) (hsw:Swap f e d0 d1) (ha:LentTs h0 L ds az):
  CallE P fn ds (L.map fun i=>(i,h0 i)) f {d:=some d1,al:= [.res (Tree e)],tc:=L} :=by
 intro w G hh h' vs hi hpre hal he hs hr
 have hf:hh f= .dead:=hal 0 (by simp)
 have e1:h' f= .res (Tree e):=by rw [he f];simp
 have e2: ∀j,j≠f->h' j=hh j:=fun j q=>by
  rw [he j]
  simp only [List.length_cons,List.length_nil,List.find?_nil]
  rw [if_neg (by omega)]
 refine (h.ok w (pub0 w) vs pub0_inv (by rw [hs,ha.len]) fun j v x hv hx=>?_).mono fun en w' ⟨v,d',l',G1,q1,q2,q3,q4,q5⟩=>?_
 ·obtain ⟨d0,h1,h2⟩:=ha.get hx
  exact lentT_rv hi (fun i hL=>hpre i _ (List.mem_map.2 ⟨i,hL,rfl⟩)) h2 (hr j v d0 hv h1)
 ·obtain ⟨G2,r1,r2,r3⟩:=q2 w' G1 v q4 q3
  have x:=r3 _ _ q5
  obtain ⟨u,ru,back⟩:=hsw _ _ _ _ r1
  obtain ⟨bs,t1,t2⟩:=ru.tree (fun j b e=>(r2.x.sgs j b e).2.2) ns hns
  have row: ∀b,b<w.heap.size->w'.heap[b]?=w.heap[b]?:=fun b hb=>x.others b hb (fun i q=>by rw [ids_hp] at q;split at q <;>cases q) fun i R q=>by rw [ids_hp] at q;split at q <;>cases q
  have fresh: ∀b∈bs,w.heap.size<=b/\b<w'.heap.size:=fun b hb=>by
   obtain ⟨j,_,z,ej⟩:=t2.mem hb
   refine ⟨?_,(r2.x.sgs j _ ej).1⟩
   rcases x.sgw j _ ej with q | q | ⟨i,q,_⟩
   ·cases q
   ·exact q
   ·rw [ids_hp] at q;split at q <;>cases q
  obtain ⟨i1,x1⟩:=frame_new (R:=Tree e) (v:=u) (bs:=bs) hi hf e1 e2 x.os x.tape x.output x.size row fresh fun w2 hw=>⟨t2.nodup r2.x.sgi hnd,t1.frame hw⟩
  refine ⟨v,d1,_,q1,rfl,?_,i1,x1⟩
  have:=Rv.rv (w:=w') (G:=G.more f u bs) (h:=h') (i:=f) e1 (by simp only [Gh.more,if_pos];exact t1.cell)
  exact back _ _ _ (by simpa [Gh.more] using this)
end Go.Proofs.YtfplalbognalkaaGreat.Ab
/- Steps of a law: calls that make trees, calls that look into them. -/
namespace Go.Proofs.YtfplalbognalkaaGreat.Ab
open Go
theorem frame_same {w w':World} {G:Gh} {h:Hp} (hi:Inv w G h) (os:w'.os=w.os) (tape:w'.tape=w.tape) (output:w'.output=w.output) (size:w.heap.size<=w'.heap.size) (row: ∀b,b<w.heap.size->w'.heap[b]?=w.heap[b]?):
  Inv w' G h/\Ext w G h w' G h:=by
 refine frame_look (G1:=allPub w G) (h1:=hpF []) hi ?_
 rw [hpF_nil]
 exact ⟨os,tape,output,size,fun b o p=>⟨p,by simp only [World.cell?];rw [row b p]⟩,fun i ds e=>(by simp at e),fun i n k e=>(by simp at e),fun b hb _ _=>row b hb,fun i e=>(by simp [O.has] at e),fun _ _ p=> .inl p,
  fun i b k ds e=>(by simp at e),fun i e=>(by simp at e),fun i l e=>(by simp at e),fun _ _ e=>e,fun i m e=>(by simp at e),fun i R e=>(by simp at e),fun i R e=>(by simp at e),fun i m e=>(by simp at e),fun _=>rfl,fun _ _ e=> .inl e⟩
theorem pub0_inv' {w:World} :Inv w (pub0 w) (hpF []):=by
 rw [hpF_nil]
 exact ⟨fun i h=>by simp [O.has] at h,fun i j h=>by simp [O.has] at h,fun _ _ p=>p,fun i ds e=>by simp at e,fun i n k e=>by simp at e,fun i b k ds e=>by simp at e,fun i l e=>by simp at e,⟨fun j b e=>(by cases e),fun i j b c e=>(by cases e),fun i m e=>(by simp at e),fun i j m m' e=>(by simp at e),fun i R e=>(by simp at e)⟩⟩
theorem Plain.callT {P:Program} {fn:FuncId} {ds:List D} {az:List D} {d:D} {h0:Hp} {L:List Nat} (h:Plain P fn az d) (ha:LentTs h0 L ds az) (hd:d.sc=true) (f:Nat):CallE P fn ds (L.map fun i=>(i,h0 i)) f {d:=some d,tc:=L} :=by
 intro w G hh h' vs hi hpre _ he hs hr
 have e':h'=hh:=by
  funext i
  rw [he i]
  simp only [List.length_nil,Nat.add_zero,List.find?_nil]
  rw [if_neg (by omega)]
 subst e'
 refine (h w (pub0 w) vs pub0_inv' (by rw [hs,ha.len]) fun j v x hv hx=>?_).mono fun e w' ⟨v,d',l',G1,q1,q2,q3,q4,q5⟩=>?_
 ·obtain ⟨d0,h1,h2⟩:=ha.get hx
  exact lentT_rv hi (fun i hL=>hpre i _ (List.mem_map.2 ⟨i,hL,rfl⟩)) h2 (hr j v d0 hv h1)
 ·obtain ⟨G2,r1,r2,r3⟩:=q2 w' G1 v q4 q3
  have x:=r3 _ _ q5
  rw [hpF_nil] at x
  obtain ⟨i1,x1⟩:=frame_same hi x.os x.tape x.output x.size fun b hb=>x.others b hb (fun i q=>by simp [O.has] at q) fun i R q=>by simp at q
  exact ⟨v,d,G,q1,rfl,r1.sc hd,i1,x1⟩
theorem callK_lookT {A:Ar} (hA:A.Ok) {P Q:Program} (e:P=Q) {hp:Hp} {f:Nat} {gd g:Bool} {fn:FuncId} {ds:List D} {az:List D} {d:D} {o:Prop} {K:Prop->Eff->Prop} (L:List Nat)
  (h:g=true->o->Plain Q fn az d) (ha:LentTs hp L ds az) (hd:d.sc=true) (hk:K o {d:=some (if gd then .when g d else d),tc:=L}):A.call P hp f gd g fn ds o K:=
 hA.call _ _ _ _ _ _ _ _ _ ⟨ds,L.map fun i=>(i,hp i),{d:=some d,tc:=L},Wks.refl _,(fun hg ho=>e▸(h hg ho).callT ha hd f),(fun i o hm=>by
  obtain ⟨i',_,e⟩:=List.mem_map.1 hm
  cases e;rfl),fun _ _=>⟨rfl,rfl⟩,fun _ h=>(List.not_mem_nil h).elim,by simp [Function.comp_def],d,rfl,hk⟩
theorem callK_tree {A:Ar} (hA:A.Ok) {P Q:Program} (e:P=Q) {hp:Hp} {f:Nat} {g:Bool} {fn:FuncId} {ds:List D} {az:List D} {m:Nat} {x:E} {ns:List Nat} {o:Prop} {K:Prop->Eff->Prop} {d0 d1:D} (L:List Nat)
  (h:g=true->o->Proc Q fn (fun _=>az) (fun _=> [.ids 0]) (fun _=>d0) (fun _=> [.ids m])) (ha:LentTs hp L ds az) (hns:x.nums=some ns) (hnd:ns.Nodup) (hsw:Swap f x d0 d1) (hk:K o {d:=some d1,al:= [.res (Tree x)],tc:=L}):A.call P hp f false g fn ds o K:=
 hA.call _ _ _ _ _ _ _ _ _ ⟨ds,L.map fun i=>(i,hp i),{d:=some d1,al:= [.res (Tree x)],tc:=L},Wks.refl _,(fun hg ho=>e▸(h hg ho).callT hns hnd hsw ha),(fun i o hm=>by
  obtain ⟨i',_,e⟩:=List.mem_map.1 hm
  cases e;rfl),fun h=>(by cases h),fun _ h=>(List.not_mem_nil h).elim,by simp [Function.comp_def],_,rfl,by simpa using hk⟩
def E.sca:E->Bool
 | .v _=>true
 | _=>false
theorem frame_mark {w w':World} {G:Gh} {h h':Hp} {i:Nat} {R R':World->Value->List Nat->Prop} {bs':List Nat} (hi:Inv w G h) (h0:h i= .res R) (h1:h' i= .res R') (h2: ∀j,j≠i->h' j=h j)
  (os:w'.os=w.os) (tape:w'.tape=w.tape) (output:w'.output=w.output) (size:w.heap.size<=w'.heap.size) (row: ∀b,b<w.heap.size->b∉G.rb i->w'.heap[b]?=w.heap[b]?)
  (hbs: ∀b∈bs',b<w'.heap.size/\(b∈G.rb i\/w.heap.size<=b)) (hR: ∀w2:World,(∀b∈bs',w2.heap[b]?=w'.heap[b]?)->R' w2 (G.rv i) bs'):
  Inv w' (G.more i (G.rv i) bs') h'/\Ext w G h w' (G.more i (G.rv i) bs') h':=by
 obtain ⟨_,hc⟩:=hi.x.res i R h0
 have rpub: ∀b o,G.pub b o->w'.heap[b]?=w.heap[b]?:=fun b o p=>row b (hi.publt b o p) fun hb=>(hc b hb).2.1 o p
 have rhas: ∀j,(h j).has=true->w'.heap[G.blk j]?=w.heap[G.blk j]?:=fun j hj=>row _ (hi.lt j hj) fun hb=>(hc _ hb).2.2.2.1 j hj rfl
 have hne: ∀j,(h' j).has=true->j≠i/\(h j).has=true:=fun j hj=>by
  have q:j≠i:=fun q=>by rw [q,h1] at hj;cases hj
  exact ⟨q,by rw [<-h2 j q];exact hj⟩
 have nd: ∀ {j o},h j=o->(∀R,o≠ .res R)->h' j=o:=fun {j o} e q=>by
  rw [h2 j (fun q2=>q R (by rw [<-e,q2,h0]))];exact e
 have back: ∀ {j o},h' j=o->(∀R,o≠ .res R)->h j=o:=fun {j o} e q=>by
  rw [<-h2 j (fun q2=>q R' (by rw [<-e,q2,h1]))];exact e
 have rv': ∀j,(G.more i (G.rv i) bs').rv j=G.rv j:=fun j=>by
  simp only [Gh.more]
  split
  ·rename_i q;rw [q]
  ·rfl
 have ext:Ext w G h w' (G.more i (G.rv i) bs') h':= {
  os:=os
  tape:=tape
  output:=output
  size:=size
  sgm:=fun _ _ e=>e
  idm:=fun j m e=>⟨m,nd e (by simp)⟩
  rvm:=fun j R2 e=>⟨by
   by_cases q:j=i
   ·subst q;exact ⟨R',h1⟩
   ·exact ⟨R2,by rw [h2 j q];exact e⟩,rv' j⟩
  rbnew:=fun j R2 e b hb=>by
   simp only [Gh.more] at hb
   split at hb
   ·rcases (hbs b hb).2 with q | q
    ·exact .inl ⟨i,R,h0,q⟩
    ·exact .inr q
   ·rename_i q
    exact .inl ⟨j,R2,by rw [<-h2 j q];exact e,hb⟩
  idn:=fun j m e=>⟨j,m,back e (by simp)⟩
  sgn:=fun _=>rfl
  sgw:=fun _ _ e=> .inl e
  pub:=fun b o p=>⟨p,by simp only [World.cell?];rw [rpub b o p]⟩
  box:=fun i ds e=>⟨⟨ds,nd e (by simp),rfl⟩,rfl⟩
  tok:=fun i n k e=>⟨n,nd e (by simp),Nat.le_refl _,fun _ hn=>⟨rfl,by simp only [World.shape?];rw [rhas i (by rw [e];simp [O.has,hn])]⟩⟩
  others:=fun b hb _ hq=>row b hb (hq i R h0)
  new:=fun i hi=> .inl ⟨i,(hne i hi).2,rfl⟩
  vec:=fun i b k ds e=> .inr ⟨ds,nd e (by simp),Nat.le_refl _,fun hb=>⟨rfl,by simp only [World.shape?];rw [rhas i (by rw [e];exact hb)]⟩⟩
  gone:=fun _ e=>nd e (by simp)
  smap:=fun _ l e=>⟨⟨l,nd e (by simp)⟩,rfl⟩
  pubnew:=fun b o p=> .inl p}
 refine ⟨⟨fun i hh=>Nat.lt_of_lt_of_le (hi.lt i (hne i hh).2) size,fun i j a c e=>hi.inj i j (hne i a).2 (hne j c).2 e,fun b o p=>Nat.lt_of_lt_of_le (hi.publt b o p) size,fun i ds e=>?_,fun i n k e hn=>?_,fun i b k ds e=>?_,fun i l e=>?_,
  ⟨fun j b e=>?_,hi.x.sgi,fun i m e=>hi.x.ids i m (back e (by simp)),fun i j m m' a c=>hi.x.idu i j m m' (back a (by simp)) (back c (by simp)),fun j R2 e=>?_⟩⟩,ext⟩
 ·have e0:=back e (by simp)
  obtain ⟨a1,cs,T,a2,a3,a4⟩:=hi.box i ds e0
  exact ⟨a1,cs,T,by rw [<-a2];exact rhas i (by rw [e0];rfl),a3,fun j c d hc hd=>⟨(a4 j c d hc hd).1.ext ext,(a4 j c d hc hd).2⟩⟩
 ·have e0:=back e (by simp)
  obtain ⟨⟨cs,T,a1⟩,a2⟩:=hi.front i n k e0 hn
  exact ⟨⟨cs,T,by rw [<-a1];exact rhas i (by rw [e0];simp [O.has,hn])⟩,a2⟩
 ·have e0:=back e (by simp)
  obtain ⟨a0,a⟩:=hi.vec i b k ds e0
  refine ⟨a0,fun hb=>?_⟩
  obtain ⟨a1,cs,T,a2,a3,a4⟩:=a hb
  exact ⟨a1,cs,T,by rw [<-a2];exact rhas i (by rw [e0];exact hb),a3,fun j c d hc hd=>⟨(a4 j c d hc hd).1.ext ext,(a4 j c d hc hd).2⟩⟩
 ·have e0:=back e (by simp)
  obtain ⟨a1,es,ck,a2,a3,a4⟩:=hi.smap i l e0
  exact ⟨a1,es,ck,by rw [<-a2];exact rhas i (by rw [e0];rfl),a3,fun j e p a b=>⟨(a4 j e p a b).1,RvE.mono (G':=G.more _ _ bs') ext.pub ext.sgm (a4 j e p a b).2⟩⟩
 ·obtain ⟨a,c,d⟩:=hi.x.sgs j b e
  exact ⟨Nat.lt_of_lt_of_le a size,fun i hh=>c i (hne i hh).2,by rw [row _ a fun hb=>(hc _ hb).2.2.1 j b e rfl];exact d⟩
 ·rw [rv' j]
  by_cases q:j=i
  ·subst q
   rw [h1] at e
   cases e
   have hrb:(G.more j (G.rv j) bs').rb j=bs':=by simp [Gh.more]
   rw [hrb]
   refine ⟨hR,fun b hb=>?_⟩
   obtain ⟨c1,c2⟩:=hbs b hb
   refine ⟨c1,fun o p=>?_,fun k c ec eb=>?_,fun k hk eb=>?_,fun k R2 ek hbk=>?_⟩
   ·have p:G.pub b o:=p
    rcases c2 with c2 | c2
    ·exact (hc b c2).2.1 o p
    ·have:=hi.publt b o p;omega
   ·have ec:G.sg k=some c:=ec
    rcases c2 with c2 | c2
    ·exact (hc b c2).2.2.1 k c ec eb
    ·have:=(hi.x.sgs k c ec).1;omega
   ·have eb:G.blk k=b:=eb
    rcases c2 with c2 | c2
    ·exact (hc b c2).2.2.2.1 k (hne k hk).2 eb
    ·have:=hi.lt k (hne k hk).2;omega
   ·by_cases q:k=j
    ·exact q.symm
    ·have hbk:b∈(if k=j then bs' else G.rb k):=hbk
     rw [if_neg q] at hbk
     have ek':h k= .res R2:=by rw [<-h2 k q];exact ek
     rcases c2 with c2 | c2
     ·exact (hc b c2).2.2.2.2 k R2 ek' hbk
     ·have:=((hi.x.res k R2 ek').2 b hbk).1
      omega
  ·rw [h2 j q] at e
   obtain ⟨a,c⟩:=hi.x.res j R2 e
   have hrb:(G.more i (G.rv i) bs').rb j=G.rb j:=by simp [Gh.more,q]
   rw [hrb]
   have out: ∀b∈G.rb j,b∉G.rb i:=fun b hb hb'=>q ((c b hb).2.2.2.2 i R h0 hb')
   refine ⟨fun w2 hw=>a w2 fun b hb=>by rw [hw b hb];exact row b (c b hb).1 (out b hb),fun b hb=>?_⟩
   obtain ⟨c1,c2,c3,c4,c5⟩:=c b hb
   refine ⟨Nat.lt_of_lt_of_le c1 size,c2,c3,fun k hk=>c4 k (hne k hk).2,fun k R3 ek hbk=>?_⟩
   have hbk:b∈(if k=i then bs' else G.rb k):=hbk
   by_cases q2:k=i
   ·rw [if_pos q2] at hbk
    rcases (hbs b hbk).2 with q3 | q3
    ·exact absurd q3 (out b hb)
    ·omega
   ·rw [if_neg q2] at hbk
    exact c5 k R3 (by rw [<-h2 k q2];exact ek) hbk
def MarkC (P:Program) (fn:FuncId) (sh:Value->Value) (e e':E) (k k':Int):Prop:= ∀(w:World) (v:Value) (bs:List Nat),bs.Nodup->(∀b∈bs,b<w.heap.size)->TreeAt w v bs e->
 Calls P fn #[sh v,.int .i64 k] w fun en w'=>en= .returned (.int .i64 k')/\okV (.int .i64 k')=true/\w'.os=w.os/\w'.tape=w.tape/\w'.output=w.output/\w.heap.size<=w'.heap.size/\(∀b,b<w.heap.size->b∉bs->w'.heap[b]?=w.heap[b]?)/\
  ∃bs',bs'.Nodup/\(∀b∈bs',b<w'.heap.size/\(b∈bs\/w.heap.size<=b))/\TreeAt w' v bs' e'
theorem two_args {w:World} {G:Gh} {h:Hp} {vs:Array Value} {d:D} {k:Int} {x:Value} (hs:vs.size=2) (hr: ∀(j:Nat) v a,vs[j]?=some v-> [d,.e (.v (.int .i64 k))][j]?=some a->Rv w G h v a) (hx: ∀v,Rv w G h v d->v=x):vs= #[x,.int .i64 k]:=by
 have h1:vs[1]= .int .i64 k:=by
  have:=rv_e (hr 1 vs[1] (.e (.v (.int .i64 k))) (by simp [hs]) rfl)
  generalize vs[1]=y at this
  cases this;rfl
 have h0:vs[0]=x:=hx _ (hr 0 vs[0] d (by simp [hs]) rfl)
 refine Array.ext (by simpa using hs) fun i a b=>?_
 match i with
 | 0=>exact h0
 | 1=>exact h1
 | i+2=>simp at b;omega
theorem MarkC.callE {P:Program} {fn:FuncId} {sh:Value->Value} {e e':E} {k k':Int} {i f:Nat} {d:D} (h:MarkC P fn sh e e' k k') (hd: ∀(w:World) (G:Gh) (h:Hp) v,Rv w G h v d->v=sh (G.rv i)):
  CallE P fn [d,.e (.v (.int .i64 k))] [(i,.res (Tree e))] f {d:=some (.e (.v (.int .i64 k'))),wr:= [(i,.res (Tree e'))],tc:= [i]} :=by
 intro w G hh h' vs hi hpre _ he hs hr
 have e0:hh i= .res (Tree e):=hpre i _ (by simp)
 have e1:h' i= .res (Tree e'):=by
  rw [he i,if_neg (by simp)]
  simp
 have e2: ∀j,j≠i->h' j=hh j:=fun j q=>by
  rw [he j,if_neg (by simp)]
  have:(i==j)=false:=by simp;omega
  simp [this]
 obtain ⟨a,c⟩:=hi.x.res i _ e0
 obtain ⟨nd,t⟩:=a w fun _ _=>rfl
 have hv:=two_args hs hr fun v r=>hd w G hh v r
 subst hv
 refine (h w (G.rv i) (G.rb i) nd (fun b hb=>(c b hb).1) t).mono fun en w' ⟨q1,ok,os,tp,ou,sz,row,bs',n',l',t'⟩=>?_
 obtain ⟨i1,x1⟩:=frame_mark (R':=Tree e') (bs':=bs') hi e0 e1 e2 os tp ou sz row l' fun w2 hw=>⟨n',t'.frame hw⟩
 exact ⟨_,_,_,q1,rfl,.e (.v ok),i1,x1⟩
theorem callK_mark {A:Ar} (hA:A.Ok) {P Q:Program} (e:P=Q) {hp:Hp} {f:Nat} {g:Bool} {fn:FuncId} {sh:Value->Value} {x x':E} {k k':Int} {d:D} {o:Prop} {K:Prop->Eff->Prop} (i:Nat) (hb:hp i= .res (Tree x))
  (hd: ∀(w:World) (G:Gh) (h:Hp) v,Rv w G h v d->v=sh (G.rv i)) (hk:K o {d:=some (.e (.v (.int .i64 k'))),wr:= [(i,.res (Tree x'))],tc:= [i]}) (h:MarkC Q fn sh x x' k k'):A.call P hp f false g fn [d,.e (.v (.int .i64 k))] o K:=
 hA.call _ _ _ _ _ _ _ _ _ ⟨_, [(i,.res (Tree x))],{d:=some (.e (.v (.int .i64 k'))),wr:= [(i,.res (Tree x'))],tc:= [i]},Wks.refl _,(fun _ _=>e▸h.callE hd),(fun j o hm=>by
  rw [List.mem_singleton] at hm;cases hm;exact hb),fun h=>(by cases h),fun y hy=>by rw [List.mem_singleton] at hy;subst hy;simp,by simp,_,rfl,by simpa using hk⟩
theorem callK_res {A:Ar} (hA:A.Ok) {P Q:Program} (e:P=Q) {hp:Hp} {f:Nat} {g:Bool} {fn:FuncId} {ds:List D} {d:D} {i:Nat} {R R':World->Value->List Nat->Prop} {o:Prop} {K:Prop->Eff->Prop} (hb:hp i= .res R)
  (hk:K o {d:=some d,wr:= [(i,.res R')],tc:= [i]}) (h: ∀f,CallE Q fn ds [(i,.res R)] f {d:=some d,wr:= [(i,.res R')],tc:= [i]}):A.call P hp f false g fn ds o K:=
 hA.call _ _ _ _ _ _ _ _ _ ⟨_, [(i,.res R)],{d:=some d,wr:= [(i,.res R')],tc:= [i]},Wks.refl _,(fun _ _=>e▸h f),(fun j o hm=>by
  rw [List.mem_singleton] at hm;cases hm;exact hb),fun h=>(by cases h),fun y hy=>by rw [List.mem_singleton] at hy;subst hy;simp,by simp,_,rfl,by simpa using hk⟩
def Trees (vs:List Value) (ts:List E):World->Value->List Nat->Prop:=fun w _ bs=>bs.Nodup/\ ∃bss:List (List Nat),bs=bss.flatten/\bss.length=ts.length/\(∀(j:Nat) e,ts[j]?=some e->e.sca=true->bss.getD j []= [])/\
 ∀(j:Nat) v e,vs[j]?=some v->ts[j]?=some e->e.sca=false->TreeAt w v (bss.getD j []) e
theorem mem_set_flat {bss:List (List Nat)} {j:Nat} {l:List Nat} {b:Nat} (h:b∈(bss.set j l).flatten):b∈l\/b∈bss.flatten:=by
 obtain ⟨x,h1,h2⟩:=List.mem_flatten.1 h
 rcases List.mem_or_eq_of_mem_set h1 with q | rfl
 ·exact .inr (List.mem_flatten.2 ⟨x,q,h2⟩)
 ·exact .inl h2
theorem flat_disj: ∀ {bss:List (List Nat)} {i j b:Nat},bss.flatten.Nodup->b∈bss.getD i []->b∈bss.getD j []->i=j
 | [],i,j,b,_,hi,_=>by simp at hi
 | a::r,0,0,_,_,_,_=>rfl
 | a::r,0,j+1,b,nd,hi,hj=>by
  rw [List.flatten_cons,List.nodup_append] at nd
  exact absurd rfl (nd.2.2 b (by simpa using hi) b (mem_getD_flatten (by simpa using hj)))
 | a::r,i+1,0,b,nd,hi,hj=>by
  rw [List.flatten_cons,List.nodup_append] at nd
  exact absurd rfl (nd.2.2 b (by simpa using hj) b (mem_getD_flatten (by simpa using hi)))
 | a::r,i+1,j+1,b,nd,hi,hj=>by
  rw [List.flatten_cons,List.nodup_append] at nd
  exact congrArg (· +1) (flat_disj (bss:=r) (b:=b) nd.2.1 (by simpa using hi) (by simpa using hj))
theorem nodup_getD: ∀ {bss:List (List Nat)} {j:Nat},bss.flatten.Nodup->(bss.getD j []).Nodup
 | [],j,_=>by simp
 | a::r,0,nd=>by
  rw [List.flatten_cons,List.nodup_append] at nd
  exact nd.1
 | a::r,j+1,nd=>by
  rw [List.flatten_cons,List.nodup_append] at nd
  simpa using nodup_getD (j:=j) nd.2.1
theorem nodup_set: ∀ {bss:List (List Nat)} {j N:Nat} {l:List Nat},bss.flatten.Nodup->l.Nodup->(∀b∈l,b∈bss.getD j []\/N<=b)->(∀b∈bss.flatten,b<N)->(bss.set j l).flatten.Nodup
 | [],_,_,_,_,_,_,_=>by simp
 | a::r,0,N,l,nd,hl,hd,hN=>by
  rw [List.flatten_cons,List.nodup_append] at nd
  rw [List.set_cons_zero,List.flatten_cons,List.nodup_append]
  refine ⟨hl,nd.2.1,fun x hx y hy=>?_⟩
  rcases hd x hx with q | q
  ·exact nd.2.2 x (by simpa using q) y hy
  ·have:=hN y (by rw [List.flatten_cons];exact List.mem_append_right _ hy);omega
 | a::r,j+1,N,l,nd,hl,hd,hN=>by
  rw [List.flatten_cons,List.nodup_append] at nd
  rw [List.set_cons_succ,List.flatten_cons,List.nodup_append]
  refine ⟨nd.1,nodup_set (N:=N) nd.2.1 hl (fun b hb=>by simpa using hd b hb) (fun b hb=>hN b (by rw [List.flatten_cons];exact List.mem_append_right _ hb)),fun x hx y hy=>?_⟩
  rcases mem_set_flat hy with q | q
  ·rcases hd y q with q | q
   ·exact nd.2.2 x hx y (mem_getD_flatten (by simpa using q))
   ·have:=hN x (by rw [List.flatten_cons];exact List.mem_append_left _ hx);omega
  ·exact nd.2.2 x hx y q
theorem MarkC.callEs {P:Program} {fn:FuncId} {e e':E} {k k':Int} {i f j:Nat} {vs0:List Value} {ts:List E} {v:Value} (h:MarkC P fn id e e' k k') (hv:vs0[j]?=some v) (ht:ts[j]?=some e) (hs0:e.sca=false) (hs1:e'.sca=false):
  CallE P fn [.e (.v v),.e (.v (.int .i64 k))] [(i,.res (Trees vs0 ts))] f {d:=some (.e (.v (.int .i64 k'))),wr:= [(i,.res (Trees vs0 (ts.set j e')))],tc:= [i]} :=by
 intro w G hh h' vs hi hpre _ he hs hr
 have e0:hh i= .res (Trees vs0 ts):=hpre i _ (by simp)
 have e1:h' i= .res (Trees vs0 (ts.set j e')):=by
  rw [he i,if_neg (by simp)]
  simp
 have e2: ∀j,j≠i->h' j=hh j:=fun j q=>by
  rw [he j,if_neg (by simp)]
  have:(i==j)=false:=by simp;omega
  simp [this]
 obtain ⟨a,c⟩:=hi.x.res i _ e0
 obtain ⟨nd,bss,eb,el,hsc,hsl⟩:=a w fun _ _=>rfl
 have t:=hsl j v e hv ht hs0
 have hj:j<ts.length:=(List.getElem?_eq_some_iff.1 ht).1
 have sub: ∀m,∀b∈bss.getD m [],b∈G.rb i:=fun m b hb=>by rw [eb];exact mem_getD_flatten hb
 have hv2:=two_args (x:=v) hs hr fun u r=>by
  have r:=rv_e r
  cases r;rfl
 subst hv2
 have ndj:(bss.getD j []).Nodup:=by
  rw [eb] at nd
  exact nodup_getD nd
 refine (h w v (bss.getD j []) ndj (fun b hb=>(c b (sub j b hb)).1) t).mono fun en w' ⟨q1,ok,os,tp,ou,sz,row,bs',n',l',t'⟩=>?_
 have setj:(bss.set j bs').getD j []=bs':=by simp [List.getD,show j<bss.length by omega]
 have setm: ∀m,m≠j->(bss.set j bs').getD m []=bss.getD m []:=fun m q=>by simp [List.getD,List.getElem?_set_ne (Ne.symm q)]
 have hA: ∀b∈(bss.set j bs').flatten,b<w'.heap.size/\(b∈G.rb i\/w.heap.size<=b):=fun b hb=>by
  rcases mem_set_flat hb with q | q
  ·obtain ⟨c1,c2⟩:=l' b q
   exact ⟨c1,c2.imp_left (sub j b)⟩
  ·rw [<-eb] at q
   exact ⟨Nat.lt_of_lt_of_le (c b q).1 sz,.inl q⟩
 have hB: ∀w2:World,(∀b∈(bss.set j bs').flatten,w2.heap[b]?=w'.heap[b]?)->Trees vs0 (ts.set j e') w2 (G.rv i) (bss.set j bs').flatten:=fun w2 hw=>by
  refine ⟨nodup_set (N:=w.heap.size) (by rw [<-eb];exact nd) n' (fun b hb=>(l' b hb).2) (fun b hb=>(c b (by rw [eb];exact hb)).1),bss.set j bs',rfl,by simp [el],fun m x hx hxs=>?_,fun m u x hu hx hxs=>?_⟩
  ·by_cases q:m=j
   ·subst q
    rw [List.getElem?_set_self hj] at hx
    cases hx
    rw [hs1] at hxs;cases hxs
   ·rw [List.getElem?_set_ne (Ne.symm q)] at hx
    rw [setm m q]
    exact hsc m x hx hxs
  ·by_cases q:m=j
   ·subst q
    rw [List.getElem?_set_self hj] at hx
    cases hx
    rw [hv] at hu
    cases hu
    rw [setj]
    exact t'.frame fun b hb=>hw b (mem_getD_flatten (j:=m) (by rw [setj];exact hb))
   ·rw [List.getElem?_set_ne (Ne.symm q)] at hx
    rw [setm m q]
    refine (hsl m u x hu hx hxs).frame fun b hb=>?_
    rw [hw b (mem_getD_flatten (j:=m) (by rw [setm m q];exact hb))]
    exact row b (c b (sub m b hb)).1 fun hb'=>q (flat_disj (by rw [<-eb];exact nd) hb hb')
 obtain ⟨i1,x1⟩:=frame_mark (R':=Trees vs0 (ts.set j e')) (bs':=(bss.set j bs').flatten) hi e0 e1 e2 os tp ou sz (fun b hb hn=>row b hb fun q=>hn (sub j b q)) hA hB
 exact ⟨_,_,_,q1,rfl,.e (.v ok),i1,x1⟩
end Go.Proofs.YtfplalbognalkaaGreat.Ab
