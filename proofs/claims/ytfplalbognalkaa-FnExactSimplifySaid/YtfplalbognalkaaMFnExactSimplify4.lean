/- Marks in flat plans, asked for. -/
import Derived.Test.YtfplalbognalkaaMFnExactSimplify3
set_option linter.unusedSimpArgs false
set_option linter.unusedVariables false
set_option linter.unnecessarySimpa false
set_option linter.constructorNameAsVariable false
namespace Go.Proofs.Ytfplalbognalkaa.Ab
open Go
def c157:F:=⟨31, [(.tmp 4)],(.seq (.reg [ZA 4 (.mov (.c (.int 0)))]) (.seq (.seq (.reg [ZA 5 (.mov (.c (.int 0)))]) (.block 0 (.loop (.seq (.seq (.reg [ZA 6 (.mov 5),ZA 7 (.mov 0),ZA 8 (.lenl 7),ZA 9 (.bin .lss 6 8)]) (.cond 9 .skip (.exit 0))) (.seq (.block 1 (.seq (.seq (.reg [ZA 12 (.mov 0),ZA 13 (.mov 5),ZA 14 (.iadr none 2 12 13),ZA 15 (.fadr 0 14),ZA 16 (.load false 1 15),ZA 17 (.mov 1),ZA 18 (.bin .neq 16 17)]) (.cond 18 (.seq (.reg [ZA 4 (.mov (.c (.int (-1))))]) .ret) .skip)) (.seq (.reg [ZA 19 (.mov 1),ZA 20 (.bin .add 19 (.c (.int 1))),ZA 1 (.mov 20)]) (.seq (.seq (.reg [ZA 21 (.mov 0),ZA 22 (.mov 5),ZA 23 (.iadr none 2 21 22),ZA 24 (.fadr 1 23),ZA 25 (.load false 1 24),ZA 26 (.mov 1),ZA 27 (.bin .neq 25 26)]) (.cond 27 (.seq (.reg [ZA 4 (.mov (.c (.int (-1))))]) .ret) .skip)) (.reg [ZA 28 (.mov 1),ZA 29 (.bin .add 28 (.c (.int 1))),ZA 1 (.mov 29)]))))) (.reg [ZA 10 (.mov 5),ZA 11 (.bin .add 10 (.c (.int 1))),ZA 5 (.mov 11)])))))) (.seq (.reg [ZA 30 (.mov 1),ZA 4 (.mov 30)]) .ret)))⟩
theorem p157:prepF Try.prog 157=some c157:=by kernel_rfl
def c158:F:=⟨21, [(.tmp 4)],(.seq (.reg [ZA 4 (.mov (.c (.int 0)))]) (.seq (.seq (.reg [ZA 5 (.mov (.c (.int 0)))]) (.block 0 (.loop (.seq (.seq (.reg [ZA 6 (.mov 5),ZA 7 (.mov 0),ZA 8 (.lenl 7),ZA 9 (.bin .lss 6 8)]) (.cond 9 .skip (.exit 0))) (.seq (.block 1 (.seq (.reg [ZA 12 (.mov 0),ZA 13 (.mov 5),ZA 14 (.iadr none 1 12 13),ZA 15 (.load false 1 14),ZA 16 (.mov 1),ZA 17 (.call 157 [15,16]),ZA 1 (.mov 17)]) (.seq (.reg [ZA 18 (.mov 1),ZA 19 (.bin .lss 18 (.c (.int 0)))]) (.cond 19 (.seq (.reg [ZA 4 (.mov (.c (.int (-1))))]) .ret) .skip)))) (.reg [ZA 10 (.mov 5),ZA 11 (.bin .add 10 (.c (.int 1))),ZA 5 (.mov 11)])))))) (.seq (.reg [ZA 20 (.mov 1),ZA 4 (.mov 20)]) .ret)))⟩
theorem p158:prepF Try.prog 158=some c158:=by kernel_rfl
def c104:F:=⟨85, [(.tmp 4)],(.seq (.reg [ZA 4 (.mov (.c (.int 0)))]) (.seq (.seq (.reg [ZA 5 (.mov (.c (.int 0)))]) (.block 0 (.loop (.seq (.seq (.reg [ZA 6 (.mov 5),ZA 7 (.mov 0),ZA 8 (.lenl 7),ZA 9 (.bin .lss 6 8)]) (.cond 9 .skip (.exit 0))) (.seq (.block 1 (.seq (.seq (.reg [ZA 12 (.mov 0),ZA 13 (.mov 5),ZA 14 (.iadr none 8 12 13),ZA 15 (.fadr 0 14),ZA 16 (.load false 1 15),ZA 17 (.mov 1),ZA 18 (.bin .neq 16 17)]) (.cond 18 (.seq (.reg [ZA 4 (.mov (.c (.int (-1))))]) .ret) .skip)) (.seq (.reg [ZA 19 (.mov 1),ZA 20 (.bin .add 19 (.c (.int 1))),ZA 1 (.mov 20)]) (.seq (.seq (.reg [ZA 21 (.mov 0),ZA 22 (.mov 5),ZA 23 (.iadr none 8 21 22),ZA 24 (.fadr 1 23),ZA 25 (.load false 1 24),ZA 26 (.mov 1),ZA 27 (.bin .neq 25 26)]) (.cond 27 (.seq (.reg [ZA 4 (.mov (.c (.int (-1))))]) .ret) .skip)) (.seq (.reg [ZA 28 (.mov 1),ZA 29 (.bin .add 28 (.c (.int 1))),ZA 1 (.mov 29)]) (.seq (.seq (.reg [ZA 30 (.mov 0),ZA 31 (.mov 5),ZA 32 (.iadr none 8 30 31),ZA 33 (.fadr 2 32),ZA 34 (.load false 1 33),ZA 35 (.mov 1),ZA 36 (.bin .neq 34 35)]) (.cond 36 (.seq (.reg [ZA 4 (.mov (.c (.int (-1))))]) .ret) .skip)) (.seq (.reg [ZA 37 (.mov 1),ZA 38 (.bin .add 37 (.c (.int 1))),ZA 1 (.mov 38)]) (.seq (.seq (.reg [ZA 39 (.mov 0),ZA 40 (.mov 5),ZA 41 (.iadr none 8 39 40),ZA 42 (.fadr 3 41),ZA 43 (.load false 1 42),ZA 44 (.mov 1),ZA 45 (.bin .neq 43 44)]) (.cond 45 (.seq (.reg [ZA 4 (.mov (.c (.int (-1))))]) .ret) .skip)) (.seq (.reg [ZA 46 (.mov 1),ZA 47 (.bin .add 46 (.c (.int 1))),ZA 1 (.mov 47)]) (.seq (.reg [ZA 48 (.mov 0),ZA 49 (.mov 5),ZA 50 (.iadr none 8 48 49),ZA 51 (.fadr 4 50),ZA 52 (.load false 1 51),ZA 53 (.mov 1),ZA 54 (.call 157 [52,53]),ZA 1 (.mov 54)]) (.seq (.seq (.reg [ZA 55 (.mov 1),ZA 56 (.bin .lss 55 (.c (.int 0)))]) (.cond 56 (.seq (.reg [ZA 4 (.mov (.c (.int (-1))))]) .ret) .skip)) (.seq (.reg [ZA 57 (.mov 0),ZA 58 (.mov 5),ZA 59 (.iadr none 8 57 58),ZA 60 (.fadr 5 59),ZA 61 (.load false 1 60),ZA 62 (.mov 1),ZA 63 (.call 158 [61,62]),ZA 1 (.mov 63)]) (.seq (.seq (.reg [ZA 64 (.mov 1),ZA 65 (.bin .lss 64 (.c (.int 0)))]) (.cond 65 (.seq (.reg [ZA 4 (.mov (.c (.int (-1))))]) .ret) .skip)) (.seq (.seq (.reg [ZA 66 (.mov 0),ZA 67 (.mov 5),ZA 68 (.iadr none 8 66 67),ZA 69 (.fadr 6 68),ZA 70 (.load false 1 69),ZA 71 (.mov 1),ZA 72 (.bin .neq 70 71)]) (.cond 72 (.seq (.reg [ZA 4 (.mov (.c (.int (-1))))]) .ret) .skip)) (.seq (.reg [ZA 73 (.mov 1),ZA 74 (.bin .add 73 (.c (.int 1))),ZA 1 (.mov 74)]) (.seq (.seq (.reg [ZA 75 (.mov 0),ZA 76 (.mov 5),ZA 77 (.iadr none 8 75 76),ZA 78 (.fadr 7 77),ZA 79 (.load false 1 78),ZA 80 (.mov 1),ZA 81 (.bin .neq 79 80)]) (.cond 81 (.seq (.reg [ZA 4 (.mov (.c (.int (-1))))]) .ret) .skip)) (.reg [ZA 82 (.mov 1),ZA 83 (.bin .add 82 (.c (.int 1))),ZA 1 (.mov 83)]))))))))))))))))) (.reg [ZA 10 (.mov 5),ZA 11 (.bin .add 10 (.c (.int 1))),ZA 5 (.mov 11)])))))) (.seq (.reg [ZA 84 (.mov 1),ZA 4 (.mov 84)]) .ret)))⟩
theorem p104:prepF Try.prog 104=some c104:=by kernel_rfl
def c46:F:=⟨12, [(.tmp 4)],(.seq (.reg [ZA 2 (.box 0),ZA 4 (.mov (.c (.int 0)))]) (.seq (.reg [ZA 5 (.fadr 0 2),ZA 6 (.load false 1 5),ZA 7 (.mov 1),ZA 8 (.call 104 [6,7]),ZA 1 (.mov 8)]) (.seq (.seq (.reg [ZA 9 (.mov 1),ZA 10 (.bin .lss 9 (.c (.int 0)))]) (.cond 10 (.seq (.reg [ZA 4 (.mov (.c (.int (-1))))]) .ret) .skip)) (.seq (.reg [ZA 11 (.mov 1),ZA 4 (.mov 11)]) .ret))))⟩
theorem p46:prepF Try.prog 46=some c46:=by kernel_rfl
set_option maxRecDepth 100000 in
set_option maxHeartbeats 1000000 in
theorem ok157 (x:Nx) (es:List (List E)) (k:Int) (he:es=(mkX k x).2.map orow) (hk:0<=k) (hk2:k+cX x<=140737488355328):Plain Try.prog 157 [.e (.sl es),.int k] (.int (k+cX x)):=okOf mixed p157 fun A P hA hP=>(by
  have hl1:es.length=x.2.length:=by rw [he,List.length_map,mkX,mkL_len]
  have hcx:=cX_len x
  have htg: ∀i:Nat,i<es.length->es.getD i []= [E.int (k+2 * i),E.int (k+2 * i+1)]:=fun i h=>by
    obtain ⟨a,ha⟩: ∃a,x.2[i]?=some a:=⟨_,List.getElem?_eq_getElem (by omega)⟩
    rw [List.getD,he,List.getElem?_map,mkX,mkL_get mkOp cOp k x.2 i a ha,cOp_sum,cOp_sum,List.length_drop]
    have:k+2 * (x.2.length:Int)-2 * ((x.2.length-i:Nat):Int)=k+2 * i:=by omega
    rw [this]
    rfl
  obtain ⟨kr,hkr⟩: ∃r,r=k+cX x:=⟨_,rfl⟩
  obtain ⟨ze,hze⟩: ∃z:Int,z=es.length:=⟨_,rfl⟩
  rw [<-hkr]
  cbv
  repeat' first | with_reducible rfl | with_reducible refine And.intro ?_ ?_ | ((with_reducible intro hcc);first | (cases hcc;done) | skip) | ((with_reducible first | show goC _ _ _ _ _ _ _ _ | show goOps _ _ _ _ _ | show goD _ _ _ _ _ _);cbv) | ((with_reducible show okWr _ _=_);rfl) | ((with_reducible first | refine hA.fin_pl _ _ _ ?_ | refine hA.len _ _ _ _ _ fun z hz hb=>?_ | refine hA.off _ _ _ _ fun b hb=>?_ | refine hA.plus _ _ _ fun b hb=>?_);cbv) | ((with_reducible first | refine hA.sapp _ _ _ ⟨?_,fun sl hsl=>?_⟩);rotate_left;cbv) | (simp only [hA.lits];cbv)
  all_goals try simp only [hA.ar,inR,n_cast,Int.ofNat_eq_natCast,Option.getD_some,Option.getD_none] at *
  all_goals try omega
  refine hA.loopI (fun m s=> ∃(i k1:Int),0<=i/\m+i=es.length/\k1=k+2 * i/\s=⟨[(5,.int i),(0,.e (.sl es)),(1,.int k1)], []⟩) es.length _
      (Weak.keep (env':= [(5,.int 0),(0,.e (.sl es)),(1,.int k)]) ⟨rfl,rfl,rfl,trivial⟩) ⟨0,k,by omega,by omega,by omega,rfl⟩ ?_
  rintro m s K' ⟨i,k1,h0,h1,hk1,rfl⟩ hK
  by_cases hin:(0:Int)<=i/\i<es.length
  · have e1:A.lt i ze=true:=by rw [hA.lt];exact decide_eq_true (by omega)
    obtain ⟨k3,hk3⟩: ∃k,k=A.add k1 1:=⟨_,rfl⟩
    have hk3':k3=k1+1:=by rw [hk3,hA.add]
    have hrow0:es.getD i.toNat []= [E.int k1,E.int k3]:=by
      rw [htg _ (by omega),hk3',hk1,show k+2 * i=k+2 * ((i.toNat:Nat):Int) by omega]
    have e2: ∀k,A.eq k k=true:=fun k=>by rw [hA.eq];exact decide_eq_true rfl
    have hK2: ∀(env:List (Nat×D)),subL [(5,.int (i+1)),(0,.e (.sl es)),(1,.int (k3+1))] env->K' ⟨env, []⟩:=fun env q=>
      hK _ (m-1) _ (by omega) (Weak.keep q) ⟨i+1,k3+1,by omega,by omega,by omega,rfl⟩
    clear hK htg he
    cbv
    repeat' first | with_reducible rfl | (simp only [e1,<-hk3,e2];cbv) | with_reducible refine And.intro ?_ ?_ | ((with_reducible intro hcc);first | (cases hcc;done) | skip) | ((with_reducible first | show goC _ _ _ _ _ _ _ _ | show goOps _ _ _ _ _ | show goD _ _ _ _ _ _);cbv) | ((with_reducible show okWr _ _=_);rfl) | ((with_reducible refine hA.len es _ _ _ _ fun z hz hb=>?_);(have e6:=hze.trans hz.symm);subst e6;cbv) | ((with_reducible refine hA.row es i _ ⟨hin,fun row hrow=>?_⟩);rw [hrow0] at hrow;subst hrow;cbv) | ((with_reducible first | refine hA.fin_pl _ _ _ ?_ | refine hA.len _ _ _ _ _ fun z hz hb=>?_ | refine hA.off _ _ _ _ fun b hb=>?_ | refine hA.plus _ _ _ fun b hb=>?_);cbv) | ((with_reducible first | refine hA.sapp _ _ _ ⟨?_,fun sl hsl=>?_⟩);rotate_left;cbv) | (simp only [hA.lits];cbv)
    all_goals try simp only [hA.ar,inR,n_cast,Int.ofNat_eq_natCast,Option.getD_some,Option.getD_none] at *
    all_goals first
      | omega
      | exact hK2 _ ⟨rfl,rfl,rfl,trivial⟩
      | (have:=hb trivial trivial trivial;omega)
      | (trace_state;fail)
  · have e1:A.lt i ze=false:=by rw [hA.lt];exact decide_eq_false (by omega)
    have hkk:k1=kr:=by omega
    subst hkk
    clear hK htg he
    cbv
    repeat' first | with_reducible rfl | (simp only [e1];cbv) | with_reducible refine And.intro ?_ ?_ | ((with_reducible intro hcc);first | (cases hcc;done) | skip) | ((with_reducible first | show goC _ _ _ _ _ _ _ _ | show goOps _ _ _ _ _ | show goD _ _ _ _ _ _);cbv) | ((with_reducible show okWr _ _=_);rfl) | ((with_reducible refine hA.len es _ _ _ _ fun z hz hb=>?_);(have e6:=hze.trans hz.symm);subst e6;cbv) | ((with_reducible first | refine hA.fin_pl _ _ _ ?_ | refine hA.len _ _ _ _ _ fun z hz hb=>?_ | refine hA.off _ _ _ _ fun b hb=>?_ | refine hA.plus _ _ _ fun b hb=>?_);cbv) | ((with_reducible first | refine hA.sapp _ _ _ ⟨?_,fun sl hsl=>?_⟩);rotate_left;cbv) | (simp only [hA.lits];cbv)
    all_goals try simp only [hA.ar,inR,n_cast,Int.ofNat_eq_natCast,Option.getD_some,Option.getD_none] at *
    all_goals first
      | omega
      | (trace_state;fail))
set_option maxRecDepth 100000 in
set_option maxHeartbeats 1000000 in
theorem ok158 (x:Nxs) (es:List (List E)) (k:Int) (he:es=((mkXs k x).2.map Prod.snd).map orr) (hk:0<=k) (hk2:k+cXs x<=140737488355328):Plain Try.prog 158 [.e (.sl es),.int k] (.int (k+cXs x)):=okOf mixed p158 fun A P hA hP=>(by
  have hl1:es.length=x.2.length:=by rw [he,List.length_map,List.length_map,mkXs,mkL_len]
  obtain ⟨kr,hkr⟩: ∃r,r=k+cXs x:=⟨_,rfl⟩
  have hcxs:cXs x=sumC cX x.2:=rfl
  obtain ⟨ze,hze⟩: ∃z:Int,z=es.length:=⟨_,rfl⟩
  rw [<-hkr]
  cbv
  repeat' first | with_reducible rfl | with_reducible refine And.intro ?_ ?_ | ((with_reducible intro hcc);first | (cases hcc;done) | skip) | ((with_reducible first | show goC _ _ _ _ _ _ _ _ | show goOps _ _ _ _ _ | show goD _ _ _ _ _ _);cbv) | ((with_reducible show okWr _ _=_);rfl) | ((with_reducible first | refine hA.fin_pl _ _ _ ?_ | refine hA.len _ _ _ _ _ fun z hz hb=>?_ | refine hA.off _ _ _ _ fun b hb=>?_);cbv) | ((with_reducible first | refine hA.sapp _ _ _ ⟨?_,fun sl hsl=>?_⟩);rotate_left;cbv) | (simp only [hA.lits];cbv)
  all_goals try simp only [hA.ar,inR,n_cast,Int.ofNat_eq_natCast,Option.getD_some,Option.getD_none] at *
  all_goals try omega
  refine hA.loopI (fun m s=> ∃(i k1:Int),0<=i/\m+i=es.length/\k1=k+sumC cX x.2-sumC cX (x.2.drop i.toNat)/\s=⟨[(5,.int i),(0,.e (.sl es)),(1,.int k1)], []⟩) es.length _
      (Weak.keep (env':= [(5,.int 0),(0,.e (.sl es)),(1,.int k)]) ⟨rfl,rfl,rfl,trivial⟩) ⟨0,k,by omega,by omega,(by rw [show (0:Int).toNat=0 from rfl,List.drop_zero];omega),rfl⟩ ?_
  rintro m s K' ⟨i,k1,h0,h1,hk1,rfl⟩ hK
  by_cases hin:(0:Int)<=i/\i<es.length
  · have e1:A.lt i ze=true:=by rw [hA.lt];exact decide_eq_true (by omega)
    obtain ⟨r,hr⟩: ∃r,x.2[i.toNat]?=some r:=⟨_,List.getElem?_eq_getElem (by omega)⟩
    have hdr:=sumC_drop (c:=cX) hr
    have hc0:=sumC_nonneg cX_nonneg (x.2.drop (i.toNat+1))
    have hcd:sumC cX (x.2.drop i.toNat)<=sumC cX x.2:=sumC_le cX_nonneg x.2 i.toNat
    have hcx:=cX_nonneg r
    obtain ⟨x1,hx1⟩: ∃y,y=(mkX k1 r).2.map orow:=⟨_,rfl⟩
    have hrow0:es.getD i.toNat []= [E.sl x1]:=by
      rw [hx1,he,mkXs,List.getD,List.getElem?_map,List.getElem?_map,mkL_get _ _ _ _ _ _ hr,hk1]
      rfl
    obtain ⟨k2,hk2'⟩: ∃k2:Int,k2=k1+cX r:=⟨_,rfl⟩
    have h303:=ok157 r x1 k1 hx1 (by omega) (by omega)
    rw [<-hk2'] at h303
    have e2:A.lt k2 0=false:=by rw [hA.lt];exact decide_eq_false (by omega)
    have hK2: ∀(env:List (Nat×D)),subL [(5,.int (i+1)),(0,.e (.sl es)),(1,.int k2)] env->K' ⟨env, []⟩:=fun env q=>
      hK _ (m-1) _ (by omega) (Weak.keep q) ⟨i+1,k2,by omega,by omega,(by rw [show (i+1).toNat=i.toNat+1 by omega];omega),rfl⟩
    clear hK he hdr hc0 hcd hk1 hx1 hk2' hk2
    cbv
    repeat' first | with_reducible rfl | (simp only [e1,e2];cbv) | with_reducible refine And.intro ?_ ?_ | ((with_reducible intro hcc);first | (cases hcc;done) | skip) | ((with_reducible first | show goC _ _ _ _ _ _ _ _ | show goOps _ _ _ _ _ | show goD _ _ _ _ _ _);cbv) | ((with_reducible show okWr _ _=_);rfl) | ((with_reducible first | refine callK_f hA hP h303 ?_ ?_ ?_);exact rfl;exact rfl;cbv) | ((with_reducible refine hA.len es _ _ _ _ fun z hz hb=>?_);(have e6:=hze.trans hz.symm);subst e6;cbv) | ((with_reducible refine hA.row es i _ ⟨hin,fun row hrow=>?_⟩);rw [hrow0] at hrow;subst hrow;cbv) | ((with_reducible first | refine hA.fin_pl _ _ _ ?_ | refine hA.len _ _ _ _ _ fun z hz hb=>?_ | refine hA.off _ _ _ _ fun b hb=>?_);cbv) | ((with_reducible first | refine hA.sapp _ _ _ ⟨?_,fun sl hsl=>?_⟩);rotate_left;cbv) | (simp only [hA.lits];cbv)
    all_goals try simp only [hA.ar,inR,n_cast,Int.ofNat_eq_natCast,Option.getD_some,Option.getD_none] at *
    all_goals first
      | omega
      | exact hK2 _ ⟨rfl,rfl,rfl,trivial⟩
      | (have:=hb trivial trivial trivial;omega)
      | (trace_state;fail)
  · have e1:A.lt i ze=false:=by rw [hA.lt];exact decide_eq_false (by omega)
    have hkk:k1=kr:=by
      rw [List.drop_eq_nil_of_le (by omega)] at hk1
      simp only [sumC] at hk1
      omega
    subst hkk
    clear hK he hk1
    cbv
    repeat' first | with_reducible rfl | (simp only [e1];cbv) | with_reducible refine And.intro ?_ ?_ | ((with_reducible intro hcc);first | (cases hcc;done) | skip) | ((with_reducible first | show goC _ _ _ _ _ _ _ _ | show goOps _ _ _ _ _ | show goD _ _ _ _ _ _);cbv) | ((with_reducible show okWr _ _=_);rfl) | ((with_reducible refine hA.len es _ _ _ _ fun z hz hb=>?_);(have e6:=hze.trans hz.symm);subst e6;cbv) | ((with_reducible first | refine hA.fin_pl _ _ _ ?_ | refine hA.len _ _ _ _ _ fun z hz hb=>?_ | refine hA.off _ _ _ _ fun b hb=>?_);cbv) | ((with_reducible first | refine hA.sapp _ _ _ ⟨?_,fun sl hsl=>?_⟩);rotate_left;cbv) | (simp only [hA.lits];cbv)
    all_goals try simp only [hA.ar,inR,n_cast,Int.ofNat_eq_natCast,Option.getD_some,Option.getD_none] at *
    all_goals first
      | omega
      | (trace_state;fail))
set_option maxRecDepth 100000 in
set_option maxHeartbeats 4000000 in
theorem ok104 (L:List Nf) (es:List (List E)) (k:Int) (he:es=(mkL mkF cF k L).map fun n=>fdr n.d) (hk:0<=k) (hk2:k+sumC cF L<=140737488355328):Plain Try.prog 104 [.e (.sl es),.int k] (.int (k+sumC cF L)):=okOf mixed p104 fun A P hA hP=>(by
  have hl1:es.length=L.length:=by rw [he,List.length_map,mkL_len]
  obtain ⟨kr,hkr⟩: ∃r,r=k+sumC cF L:=⟨_,rfl⟩
  obtain ⟨ze,hze⟩: ∃z:Int,z=es.length:=⟨_,rfl⟩
  rw [<-hkr]
  cbv
  repeat' first | with_reducible rfl | with_reducible refine And.intro ?_ ?_ | ((with_reducible intro hcc);first | (cases hcc;done) | skip) | ((with_reducible first | show goC _ _ _ _ _ _ _ _ | show goOps _ _ _ _ _ | show goD _ _ _ _ _ _);cbv) | ((with_reducible show okWr _ _=_);rfl) | ((with_reducible first | refine hA.fin_pl _ _ _ ?_ | refine hA.len _ _ _ _ _ fun z hz hb=>?_ | refine hA.off _ _ _ _ fun b hb=>?_ | refine hA.plus _ _ _ fun b hb=>?_);cbv) | ((with_reducible first | refine hA.sapp _ _ _ ⟨?_,fun sl hsl=>?_⟩);rotate_left;cbv) | (simp only [hA.lits];cbv)
  all_goals try simp only [hA.ar,inR,n_cast,Int.ofNat_eq_natCast,Option.getD_some,Option.getD_none] at *
  all_goals try omega
  refine hA.loopI (fun m s=> ∃(i k1:Int),0<=i/\m+i=es.length/\k1=k+sumC cF L-sumC cF (L.drop i.toNat)/\s=⟨[(5,.int i),(0,.e (.sl es)),(1,.int k1)], []⟩) es.length _
      (Weak.keep (env':= [(5,.int 0),(0,.e (.sl es)),(1,.int k)]) ⟨rfl,rfl,rfl,trivial⟩) ⟨0,k,by omega,by omega,(by rw [show (0:Int).toNat=0 from rfl,List.drop_zero];omega),rfl⟩ ?_
  rintro m s K' ⟨i,k1,h0,h1,hk1,rfl⟩ hK
  by_cases hin:(0:Int)<=i/\i<es.length
  · have e1:A.lt i ze=true:=by rw [hA.lt];exact decide_eq_true (by omega)
    obtain ⟨d,hr⟩: ∃r,L[i.toNat]?=some r:=⟨_,List.getElem?_eq_getElem (by omega)⟩
    have hdr:=sumC_drop (c:=cF) hr
    have hc0:=sumC_nonneg cF_nonneg (L.drop (i.toNat+1))
    have hcd:sumC cF (L.drop i.toNat)<=sumC cF L:=sumC_le cF_nonneg L i.toNat
    have hcx:=cX_nonneg d.Ex
    have hcxs:=cXs_nonneg d.Exs
    have hcf:cF d=6+cX d.Ex+cXs d.Exs:=rfl
    obtain ⟨ka,hka⟩: ∃k,k=A.add k1 1:=⟨_,rfl⟩
    obtain ⟨kb,hkb⟩: ∃k,k=A.add ka 1:=⟨_,rfl⟩
    obtain ⟨kc,hkc⟩: ∃k,k=A.add kb 1:=⟨_,rfl⟩
    obtain ⟨kd,hkd⟩: ∃k,k=A.add kc 1:=⟨_,rfl⟩
    have hka':ka=k1+1:=by rw [hka,hA.add]
    have hkb':kb=k1+2:=by rw [hkb,hA.add];omega
    have hkc':kc=k1+3:=by rw [hkc,hA.add];omega
    have hkd':kd=k1+4:=by rw [hkd,hA.add];omega
    obtain ⟨ke,hke⟩: ∃k,k=kd+cX d.Ex:=⟨_,rfl⟩
    obtain ⟨kf,hkf⟩: ∃k,k=ke+cXs d.Exs:=⟨_,rfl⟩
    obtain ⟨kg,hkg⟩: ∃k,k=A.add kf 1:=⟨_,rfl⟩
    have hkg':kg=kf+1:=by rw [hkg,hA.add]
    obtain ⟨x4,hx4⟩: ∃y,y=(mkX kd d.Ex).2.map orow:=⟨_,rfl⟩
    obtain ⟨x5,hx5⟩: ∃y,y=((mkXs ke d.Exs).2.map Prod.snd).map orr:=⟨_,rfl⟩
    have hrow0:es.getD i.toNat []= [E.int k1,E.int ka,E.int kb,E.int kc,E.sl x4,E.sl x5,E.int kf,E.int kg]:=by
      rw [he,List.getD,List.getElem?_map,mkL_get _ _ _ _ _ _ hr,<-hk1]
      show fdr (mkF k1 d).d=_
      simp only [mkF,Nf.d,fdr]
      rw [hx4,hx5,hka',hkb',hkc',hkg',hkf,hke,hkd']
    have h303:=ok157 d.Ex x4 kd hx4 (by omega) (by omega)
    have h304:=ok158 d.Exs x5 ke hx5 (by omega) (by omega)
    rw [<-hke] at h303
    rw [<-hkf] at h304
    have e2: ∀k,A.eq k k=true:=fun k=>by rw [hA.eq];exact decide_eq_true rfl
    have e3:A.lt ke 0=false:=by rw [hA.lt];exact decide_eq_false (by omega)
    have e4:A.lt kf 0=false:=by rw [hA.lt];exact decide_eq_false (by omega)
    have hbd:0<=k1/\kg+1<=140737488355328:=by omega
    have hK2: ∀(env:List (Nat×D)),subL [(5,.int (i+1)),(0,.e (.sl es)),(1,.int (kg+1))] env->K' ⟨env, []⟩:=fun env q=>
      hK _ (m-1) _ (by omega) (Weak.keep q) ⟨i+1,kg+1,by omega,by omega,(by rw [show (i+1).toNat=i.toNat+1 by omega];omega),rfl⟩
    clear hK he hdr hc0 hcd hk1 hx4 hx5 hk2
    cbv
    repeat' first | with_reducible rfl | (simp only [e1,e2,e3,e4,<-hka,<-hkb,<-hkc,<-hkd,<-hkg];cbv) | with_reducible refine And.intro ?_ ?_ | ((with_reducible intro hcc);first | (cases hcc;done) | skip) | ((with_reducible first | show goC _ _ _ _ _ _ _ _ | show goOps _ _ _ _ _ | show goD _ _ _ _ _ _);cbv) | ((with_reducible show okWr _ _=_);rfl) | ((with_reducible first | refine callK_f hA hP h303 ?_ ?_ ?_ | refine callK_f hA hP h304 ?_ ?_ ?_);exact rfl;exact rfl;cbv) | ((with_reducible refine hA.len es _ _ _ _ fun z hz hb=>?_);(have e6:=hze.trans hz.symm);subst e6;cbv) | ((with_reducible refine hA.row es i _ ⟨hin,fun row hrow=>?_⟩);rw [hrow0] at hrow;subst hrow;cbv) | ((with_reducible first | refine hA.fin_pl _ _ _ ?_ | refine hA.len _ _ _ _ _ fun z hz hb=>?_ | refine hA.off _ _ _ _ fun b hb=>?_ | refine hA.plus _ _ _ fun b hb=>?_);cbv) | ((with_reducible first | refine hA.sapp _ _ _ ⟨?_,fun sl hsl=>?_⟩);rotate_left;cbv) | (simp only [hA.lits];cbv)
    all_goals try simp only [hA.ar,inR,n_cast,Int.ofNat_eq_natCast,Option.getD_some,Option.getD_none] at *
    all_goals first
      | omega
      | exact hK2 _ ⟨rfl,rfl,rfl,trivial⟩
      | (have:=hb trivial trivial trivial;omega)
      | (trace_state;fail)
  · have e1:A.lt i ze=false:=by rw [hA.lt];exact decide_eq_false (by omega)
    have hkk:k1=kr:=by
      rw [List.drop_eq_nil_of_le (by omega)] at hk1
      simp only [sumC] at hk1
      omega
    subst hkk
    clear hK he hk1
    cbv
    repeat' first | with_reducible rfl | (simp only [e1];cbv) | with_reducible refine And.intro ?_ ?_ | ((with_reducible intro hcc);first | (cases hcc;done) | skip) | ((with_reducible first | show goC _ _ _ _ _ _ _ _ | show goOps _ _ _ _ _ | show goD _ _ _ _ _ _);cbv) | ((with_reducible show okWr _ _=_);rfl) | ((with_reducible refine hA.len es _ _ _ _ fun z hz hb=>?_);(have e6:=hze.trans hz.symm);subst e6;cbv) | ((with_reducible first | refine hA.fin_pl _ _ _ ?_ | refine hA.len _ _ _ _ _ fun z hz hb=>?_ | refine hA.off _ _ _ _ fun b hb=>?_ | refine hA.plus _ _ _ fun b hb=>?_);cbv) | ((with_reducible first | refine hA.sapp _ _ _ ⟨?_,fun sl hsl=>?_⟩);rotate_left;cbv) | (simp only [hA.lits];cbv)
    all_goals try simp only [hA.ar,inR,n_cast,Int.ofNat_eq_natCast,Option.getD_some,Option.getD_none] at *
    all_goals first
      | omega
      | (trace_state;fail))
set_option maxRecDepth 100000 in
theorem ok46 (i:Nat) (L:List Nf) (root k:Int) (hk:0<=k) (hk2:k+sumC cF L<=140737488355328):Plain Try.prog 46 [.agg [.e (eFs i (mkL mkF cF k L)).un,.int root],.int k] (.int (k+sumC cF L)):=okOf mixed p46 fun A P hA hP=>(by
  rw [eFs_un]
  have h0:=sumC_nonneg cF_nonneg L
  have h265:=ok104 L _ k rfl hk hk2
  obtain ⟨es,hes⟩: ∃es,es=(mkL mkF cF k L).map fun n=>fdr n.d:=⟨_,rfl⟩
  obtain ⟨k2,hk2'⟩: ∃k2,k2=k+sumC cF L:=⟨_,rfl⟩
  rw [<-hes,<-hk2'] at h265
  rw [<-hes,<-hk2']
  have e3:A.lt k2 0=false:=by rw [hA.lt];exact decide_eq_false (by omega)
  clear hes
  cbv
  repeat' first | with_reducible rfl | (simp only [e3];cbv) | with_reducible refine And.intro ?_ ?_ | ((with_reducible intro hcc);first | (cases hcc;done) | skip) | ((with_reducible first | show goC _ _ _ _ _ _ _ _ | show goOps _ _ _ _ _ | show goD _ _ _ _ _ _);cbv) | ((with_reducible show okWr _ _=_);rfl) | ((with_reducible first | refine callK_f hA hP h265 ?_ ?_ ?_);exact rfl;exact rfl;cbv) | ((with_reducible first | refine hA.fin_pl _ _ _ ?_);cbv) | (simp only [hA.lits];cbv)
  all_goals try simp only [hA.ar,inR,n_cast,Int.ofNat_eq_natCast,Option.getD_some,Option.getD_none] at *
  all_goals first
    | omega
    | (trace_state;fail))
end Go.Proofs.Ytfplalbognalkaa.Ab
/- Marks in tables, walked. -/
namespace Go.Proofs.Ytfplalbognalkaa.Ab
open Go
def c156:F:=⟨20, [(.tmp 2)],(.seq (.reg [ZA 2 (.mov (.c (.str [])))]) (.seq (.seq (.reg [ZA 4 (.mov 0),ZA 5 (.bin .leq 4 (.c (.int 0)))]) (.cond 5 (.seq (.reg [ZA 2 (.mov (.c (.str [109,48])))]) .ret) .skip)) (.seq (.reg [ZA 3 (.mov (.c (.str [])))]) (.seq (.block 0 (.loop (.seq (.seq (.reg [ZA 6 (.mov 0),ZA 7 (.bin .gtr 6 (.c (.int 0)))]) (.cond 7 .skip (.exit 0))) (.block 1 (.seq (.reg [ZA 8 (.mov 0),ZA 9 (.bin .rem 8 (.c (.int 10))),ZA 10 (.bin .add (.c (.int 48)) 9),ZA 11 (.convi .u8 10),ZA 12 (.lit 1 [(.v (.int .u8 0))] 1 [(0,11)]),ZA 13 (.convbs 12),ZA 14 (.mov 3),ZA 15 (.bin .add 13 14),ZA 3 (.mov 15)]) (.reg [ZA 16 (.mov 0),ZA 17 (.bin .quo 16 (.c (.int 10))),ZA 0 (.mov 17)])))))) (.seq (.reg [ZA 18 (.mov 3),ZA 19 (.bin .add (.c (.str [109])) 18),ZA 2 (.mov 19)]) .ret)))))⟩
theorem p156:prepF Try.prog 156=some c156:=by kernel_rfl
def c103:F:=⟨35, [(.tmp 4)],(.seq (.reg [ZA 4 (.mov (.c (.int 0)))]) (.seq (.seq (.reg [ZA 5 (.mov (.c (.int 0)))]) (.block 0 (.loop (.seq (.seq (.reg [ZA 6 (.mov 5),ZA 7 (.mov 0),ZA 8 (.lenl 7),ZA 9 (.bin .lss 6 8)]) (.cond 9 .skip (.exit 0))) (.seq (.block 1 (.seq (.reg [ZA 12 (.mov 0),ZA 13 (.mov 5),ZA 14 (.mov 1),ZA 15 (.call 156 [14]),ZA 16 (.iadr none 3 12 13),ZA 17 (.fadr 0 16),ZN (.store false 1 17 15)]) (.seq (.reg [ZA 18 (.mov 1),ZA 19 (.bin .add 18 (.c (.int 1))),ZA 1 (.mov 19)]) (.seq (.reg [ZA 20 (.mov 0),ZA 21 (.mov 5),ZA 22 (.mov 1),ZA 23 (.iadr none 3 20 21),ZA 24 (.fadr 1 23),ZN (.store false 1 24 22)]) (.seq (.reg [ZA 25 (.mov 1),ZA 26 (.bin .add 25 (.c (.int 1))),ZA 1 (.mov 26)]) (.reg [ZA 27 (.mov 0),ZA 28 (.mov 5),ZA 29 (.iadr none 3 27 28),ZA 30 (.fadr 2 29),ZA 31 (.load false 1 30),ZA 32 (.mov 1),ZA 33 (.call 20 [31,32]),ZA 1 (.mov 33)])))))) (.reg [ZA 10 (.mov 5),ZA 11 (.bin .add 10 (.c (.int 1))),ZA 5 (.mov 11)])))))) (.seq (.reg [ZA 34 (.mov 1),ZA 4 (.mov 34)]) .ret)))⟩
theorem p103:prepF Try.prog 103=some c103:=by kernel_rfl
def c45:F:=⟨10, [(.tmp 4)],(.seq (.reg [ZA 2 (.box 0),ZA 4 (.mov (.c (.int 0)))]) (.seq (.reg [ZA 5 (.fadr 0 2),ZA 6 (.load false 1 5),ZA 7 (.mov 1),ZA 8 (.call 103 [6,7]),ZA 1 (.mov 8)]) (.seq (.reg [ZA 9 (.mov 1),ZA 4 (.mov 9)]) .ret)))⟩
theorem p45:prepF Try.prog 45=some c45:=by kernel_rfl
def digs:Nat->Int->List UInt8->List UInt8
  | 0,_,acc=>acc
  | f+1,k,acc=>if k<=0 then acc else digs f (k / 10) (UInt8.ofNat (48+k % 10).toNat::acc)
theorem digs_done (f:Nat) (k:Int) (acc:List UInt8) (h:k<=0):digs f k acc=acc:=by
  cases f with
  | zero=>rfl
  | succ f=>rw [digs,if_pos h]
def mt (k:Int):List UInt8:=if k<=0 then [109,48] else 109::digs 48 k []
set_option maxRecDepth 100000 in
theorem ok156 (k:Int) (hk:0<=k) (hk2:k<=140737488355328):Plain Try.prog 156 [.int k] (.str (mt k)):=okOf mixed p156 fun A P hA hP=>(by
  by_cases h0:k<=0
  · have hm:mt k= [109,48]:=by rw [mt,if_pos h0]
    have e1:A.le k 0=true:=by rw [hA.le];exact decide_eq_true h0
    rw [hm]
    cbv
    repeat' first | with_reducible rfl | (simp only [e1];cbv) | with_reducible refine And.intro ?_ ?_ | ((with_reducible intro hcc);first | (cases hcc;done) | skip) | ((with_reducible first | show goC _ _ _ _ _ _ _ _ | show goOps _ _ _ _ _ | show goD _ _ _ _ _ _);cbv) | ((with_reducible show okWr _ _=_);rfl) | ((with_reducible first | refine hA.fin_pl _ _ _ ?_ | refine hA.alt _ _ (Or.inl ?_));cbv) | ((with_reducible first | refine hA.sapp _ _ _ ⟨?_,fun sl hsl=>?_⟩);rotate_left;cbv) | (simp only [hA.lits];cbv)
    all_goals try simp only [hA.ar,inR,n_cast,Int.ofNat_eq_natCast,Option.getD_some,Option.getD_none] at *
    all_goals first
      | omega
      | rfl
      | (trace_state;fail)
  · obtain ⟨r,hr⟩: ∃r,r=digs 48 k []:=⟨_,rfl⟩
    have hm:mt k=109::r:=by rw [mt,if_neg h0,hr]
    obtain ⟨rr,hrr⟩: ∃rr,rr=(109:UInt8)::r:=⟨_,rfl⟩
    rw [hm,<-hrr]
    have e1:A.le k 0=false:=by rw [hA.le];exact decide_eq_false h0
    cbv
    repeat' first | with_reducible rfl | (simp only [e1];cbv) | with_reducible refine And.intro ?_ ?_ | ((with_reducible intro hcc);first | (cases hcc;done) | skip) | ((with_reducible first | show goC _ _ _ _ _ _ _ _ | show goOps _ _ _ _ _ | show goD _ _ _ _ _ _);cbv) | ((with_reducible show okWr _ _=_);rfl) | ((with_reducible first | refine hA.fin_pl _ _ _ ?_ | refine hA.alt _ _ (Or.inl ?_));cbv) | ((with_reducible first | refine hA.sapp _ _ _ ⟨?_,fun sl hsl=>?_⟩);rotate_left;cbv) | (simp only [hA.lits];cbv)
    all_goals try simp only [hA.ar,inR,n_cast,Int.ofNat_eq_natCast,Option.getD_some,Option.getD_none] at *
    all_goals try omega
    refine hA.loopI (fun m s=> ∃(k1:Int) (out:List UInt8),0<=k1/\k1<=140737488355328/\k1<2^m/\m+out.length=48/\digs m k1 out=r/\s=⟨[(0,.int k1),(3,.str out)], []⟩) 48 _
      (Weak.keep (env':= [(0,.int k),(3,.str [])]) ⟨rfl,rfl,trivial⟩) ⟨k, [],by omega,by omega,by omega,rfl,hr.symm,rfl⟩ ?_
    rintro m s K' ⟨k1,out,i0,i9,i1,i2,i3,rfl⟩ hK
    by_cases h1:k1<=0
    · have e2:A.lt 0 k1=false:=by rw [hA.lt];exact decide_eq_false (by omega)
      have hout:out=r:=by rw [<-i3,digs_done _ _ _ h1]
      subst hout
      clear hK hm
      cbv
      repeat' first | with_reducible rfl | (simp only [e2];cbv) | with_reducible refine And.intro ?_ ?_ | ((with_reducible intro hcc);first | (cases hcc;done) | skip) | ((with_reducible first | show goC _ _ _ _ _ _ _ _ | show goOps _ _ _ _ _ | show goD _ _ _ _ _ _);cbv) | ((with_reducible show okWr _ _=_);rfl) | ((with_reducible first | refine hA.fin_pl _ _ _ ?_ | refine hA.alt _ _ (Or.inl ?_));cbv) | ((with_reducible first | refine hA.sapp _ _ _ ⟨?_,fun sl hsl=>?_⟩);rotate_left;cbv) | (simp only [hA.lits];cbv)
      all_goals try simp only [hA.ar,inR,n_cast,Int.ofNat_eq_natCast,Option.getD_some,Option.getD_none] at *
      all_goals first
        | omega
        | (rw [hsl,hrr];rfl)
        | (simp only [List.length_cons,List.length_nil];omega)
        | (subst_vars;rfl)
        | (trace_state;fail)
    · have e2:A.lt 0 k1=true:=by rw [hA.lt];exact decide_eq_true (by omega)
      obtain ⟨m',rfl⟩: ∃m',m=m'+1:=by
        cases m with
        | zero=>simp at i1;omega
        | succ m=>exact ⟨m,rfl⟩
      have hp:(2:Int)^(m'+1)=2^m' * 2:=Int.pow_succ 2 m'
      rw [digs,if_neg h1] at i3
      obtain ⟨dm,hdm⟩: ∃d,d=A.mod k1 10:=⟨_,rfl⟩
      obtain ⟨dg,hdg⟩: ∃d,d=A.add 48 dm:=⟨_,rfl⟩
      have hdm':dm=k1 % 10:=by rw [hdm,hA.mod]
      have hdg':dg=48+k1 % 10:=by rw [hdg,hA.add,hdm']
      obtain ⟨b0,hb0⟩: ∃b,b=UInt8.ofNat (48+k1 % 10).toNat:=⟨_,rfl⟩
      rw [<-hb0] at i3
      have hby:([[E.v (Value.int .u8 dg)]]:List (List E))=bytesE [b0]:=by
        have:(b0.toNat:Int)=dg:=by
          rw [hb0,hdg',UInt8.toNat_ofNat']
          omega
        rw [bytesE,List.map_cons,List.map_nil,this]
      have hdr:48<=dg/\dg<=57:=by omega
      have hK2: ∀(sl:List UInt8) (env:List (Nat×D)) (hp:List O),sl= [b0]++out->subL [(0,.int (k1 / 10)),(3,.str sl)] env->K' ⟨env,hp⟩:=fun sl env hp q1 q2=>
        hK _ m' _ (by omega) (Weak.gc q2 rfl) ⟨k1 / 10,sl,by omega,by omega,by omega,by rw [q1];simp only [List.length_append,List.length_cons,List.length_nil];omega,by rw [q1];exact i3,rfl⟩
      clear hK hm i3 hb0
      cbv
      repeat' first | with_reducible rfl | (simp only [e2,<-hdm,<-hdg];cbv) | with_reducible refine And.intro ?_ ?_ | ((with_reducible intro hcc);first | (cases hcc;done) | skip) | ((with_reducible first | show goC _ _ _ _ _ _ _ _ | show goOps _ _ _ _ _ | show goD _ _ _ _ _ _);cbv) | ((with_reducible show okWr _ _=_);rfl) | ((with_reducible refine hA.b2s _ _ [b0] hby ?_);cbv) | ((with_reducible first | refine hA.fin_pl _ _ _ ?_ | refine hA.alt _ _ (Or.inl ?_));cbv) | ((with_reducible first | refine hA.sapp _ _ _ ⟨?_,fun sl hsl=>?_⟩);rotate_left;cbv) | (simp only [hA.lits];cbv)
      all_goals try simp only [hA.ar,inR,n_cast,Int.ofNat_eq_natCast,Option.getD_some,Option.getD_none] at *
      all_goals first
        | omega
        | exact hK2 _ _ _ (by assumption) ⟨rfl,rfl,trivial⟩
        | (simp only [List.length_cons,List.length_nil];omega)
        | (trace_state;fail))
abbrev Nt:=List UInt8×Int×(Nat×List NS.Row)
def eRs (x:Nat×List NS.Row):E:= .fs x.1 (x.2.map NS.nrow)
abbrev ntr (t:Nt):List E:= [E.str t.1,E.int t.2.1,eRs t.2.2]
def Nt.t (t:Nt):Tb:=(t.1,t.2.1,t.2.2.2.map Prod.snd)
def cNt (t:Nt):Int:=2+NS.cnt t.2.2.2
theorem cNt_nonneg (t:Nt):0<=cNt t:=by have:=NS.cnt_nonneg t.2.2.2;unfold cNt;omega
def mkT (k:Int) (t:Nt):Nt:=(mt k,k+1,t.2.2.1,NS.mkR (k+2) t.2.2.2)
def eTs (i:Nat) (l:List Nt):E:= .fs i (l.map ntr)
set_option maxRecDepth 100000 in
set_option maxHeartbeats 4000000 in
theorem w264 (L:List Nt) (vs:List Value) (hv:vs.length=(L.map ntr).flatten.length) (k:Int) (hk:0<=k) (hk2:k+sumC cNt L<=140737488355328) (hlen:L.length<=1048576) (hlx: ∀n∈L,n.2.2.2.length<=1048576):
    Proc Try.prog 103 (fun t=> [.vec (t 0) (L.map ntr).length 3,.int k]) (fun _=> [.vec true 3 (cells vs (L.map ntr).flatten),.res (Trees vs ((L.map ntr).flatten.map trk))]) (fun _=> .int (k+sumC cNt L))
      (fun _=> [.vec true 3 (cells vs ((mkL mkT cNt k L).map ntr).flatten),.res (Trees vs (((mkL mkT cNt k L).map ntr).flatten.map trk))]):=procOf mixed p103 res_side fun A P hA hP=>(by
  obtain ⟨kr,hkr⟩: ∃r,r=k+sumC cNt L:=⟨_,rfl⟩
  obtain ⟨xs0,hxs0⟩: ∃xs,xs=L.map ntr:=⟨_,rfl⟩
  obtain ⟨n,hn⟩: ∃n,n=L.length:=⟨_,rfl⟩
  have hnx:xs0.length=n:=by rw [hxs0,hn,List.length_map]
  rw [<-hxs0] at hv ⊢
  rw [hnx]
  obtain ⟨ts,hts⟩: ∃ts,ts=(mkL mkT cNt k L).map ntr:=⟨_,rfl⟩
  have htl:ts.length=n:=by rw [hts,List.length_map,mkL_len,hn]
  obtain ⟨ds0,hds0⟩: ∃ds,ds=cells vs xs0.flatten:=⟨_,rfl⟩
  obtain ⟨R0,hR0⟩: ∃R,R=Trees vs (xs0.flatten.map trk):=⟨_,rfl⟩
  obtain ⟨dsF,hdsF⟩: ∃ds,ds=cells vs ts.flatten:=⟨_,rfl⟩
  obtain ⟨RF,hRF⟩: ∃R,R=Trees vs (ts.flatten.map trk):=⟨_,rfl⟩
  have V0:VS 3 vs xs0 ds0 R0:=⟨fun e h=>by rw [hxs0] at h;obtain ⟨p,_,rfl⟩:=List.mem_map.1 h;rfl,hv,hds0,hR0⟩
  rw [<-hkr,<-hds0,<-hR0,<-hts,<-hdsF,<-hRF]
  cbv
  repeat' first | with_reducible rfl | with_reducible refine And.intro ?_ ?_ | ((with_reducible intro hcc);first | (cases hcc;done) | skip) | ((with_reducible first | show goC _ _ _ _ _ _ _ _ | show goOps _ _ _ _ _ | show goD _ _ _ _ _ _);cbv) | ((with_reducible show okWr _ _=_);rfl) | ((with_reducible first | refine hA.fin_pl _ _ _ ?_ | refine hA.len _ _ _ _ _ fun z hz hb=>?_ | refine hA.off _ _ _ _ fun b hb=>?_ | refine hA.plus _ _ _ fun b hb=>?_);cbv) | ((with_reducible first | refine hA.st _ _ _ _ _ ⟨?_,fun ds hds=>?_⟩ | refine hA.sapp _ _ _ ⟨?_,fun sl hsl=>?_⟩);rotate_left;cbv) | (simp only [hA.lits];cbv)
  all_goals try simp only [hA.ar,inR,n_cast,Int.ofNat_eq_natCast,Option.getD_some,Option.getD_none] at *
  all_goals try omega
  refine hA.loopI (fun m s=> ∃(i k1:Int) (xs:List (List E)) (ds:List D) (R:World->Value->List Nat->Prop),0<=i/\m+i=n/\k1=k+sumC cNt L-sumC cNt (L.drop i.toNat)/\VS 3 vs xs ds R/\xs.length=n/\(∀j:Nat,j<i->xs[j]?=ts[j]?)/\(∀j:Nat,i<=j->xs[j]?=xs0[j]?)/\
        s=⟨[(5,.int i),(0,.vec 0 n 3),(1,.int k1)], [.vec true 3 ds,.res R]⟩) n _
      (Weak.keep (env':= [(5,.int 0),(0,.vec 0 n 3),(1,.int k)]) ⟨rfl,rfl,rfl,trivial⟩)
      ⟨0,k,xs0,ds0,R0,by omega,by omega,(by rw [show (0:Int).toNat=0 from rfl,List.drop_zero];omega),V0,hnx,(fun j hj=>by omega),(fun j _=>rfl),rfl⟩ ?_
  rintro m s K' ⟨i,k1,xs,ds,R,h0,h1,hk1,hV,h2,h3,h4,rfl⟩ hK
  have hdl:ds.length=xs.length * 3:=hV.len
  by_cases hin:(0:Int)<=i/\i<n
  · have e1:A.lt i (Int.ofNat n)=true:=by rw [hA.lt,Int.ofNat_eq_natCast];exact decide_eq_true (by omega)
    obtain ⟨d,hr⟩: ∃r,L[i.toNat]?=some r:=⟨_,List.getElem?_eq_getElem (by omega)⟩
    have hdr:=sumC_drop (c:=cNt) hr
    have hc0:=sumC_nonneg cNt_nonneg (L.drop (i.toNat+1))
    have hcd:sumC cNt (L.drop i.toNat)<=sumC cNt L:=sumC_le cNt_nonneg L i.toNat
    have hxi:xs[i.toNat]?=some (ntr d):=by rw [h4 i.toNat (by omega),hxs0,List.getElem?_map,hr];rfl
    have hcx:=NS.cnt_nonneg d.2.2.2
    have hcf:cNt d=2+NS.cnt d.2.2.2:=rfl
    have hlx':=hlx d (List.mem_of_getElem? hr)
    obtain ⟨ka,hka⟩: ∃k,k=A.add k1 1:=⟨_,rfl⟩
    obtain ⟨kb,hkb⟩: ∃k,k=A.add ka 1:=⟨_,rfl⟩
    have hka':ka=k1+1:=by rw [hka,hA.add]
    have hkb':kb=k1+2:=by rw [hkb,hA.add];omega
    obtain ⟨ke,hke⟩: ∃k,k=kb+NS.cnt d.2.2.2:=⟨_,rfl⟩
    obtain ⟨nm,hnm⟩: ∃s,s=mt k1:=⟨_,rfl⟩
    have h302:=ok156 k1 (by omega) (by omega)
    rw [<-hnm] at h302
    have m2:MarkC Try.prog 20 id (eRs d.2.2) (eRs (d.2.2.1,NS.mkR kb d.2.2.2)) kb ke:=by
      rw [hke]
      exact NS.ok20 d.2.2.2 d.2.2.1 kb (by omega) (by omega) hlx'
    obtain ⟨v2,hv2,hd2⟩:=hV.ld hxi (c:=2) rfl rfl
    have V1:=hV.st (c:=0) (x':= .string ⟨⟨nm⟩⟩) hxi rfl rfl rfl
    have V2:=V1.st (c:=1) (x':= .int .i64 ka) (set_get hxi) rfl rfl rfl
    obtain ⟨R2,V3,hcal⟩:=V2.mark (c:=2) (e:=eRs d.2.2) (e':=eRs (d.2.2.1,NS.mkR kb d.2.2.2)) (set_get (set_get hxi)) rfl rfl rfl hv2 m2
    have hcal:=hcal 1
    have ch: ∀ {d1 d2:List D} {b1 b2:Nat},d2=d1.take b2++ [.e (E.int ka)]++d1.drop (b2+1)->d1=ds.take b1++ [.e (E.str nm)]++ds.drop (b1+1)->
        b1=i.toNat * 3+0->b2=i.toNat * 3+1->VS 3 vs ((xs.set i.toNat _).set i.toNat _) d2 R:=fun {d1 d2 b1 b2} q2 q1 p1 p2=>
      (hV.st (c:=0) (x':= .string ⟨⟨nm⟩⟩) hxi rfl p1 q1).st (c:=1) (x':= .int .i64 ka) (set_get hxi) rfl p2 q2
    have ld2: ∀ {d1 d2:List D} {b1 b2 b:Nat} {c:D},d2=d1.take b2++ [.e (E.int ka)]++d1.drop (b2+1)->d1=ds.take b1++ [.e (E.str nm)]++ds.drop (b1+1)->
        b1=i.toNat * 3+0->b2=i.toNat * 3+1->b=i.toNat * 3+2->c=d2.getD b default->c= .e (.v v2):=fun {d1 d2 b1 b2 b c} q2 q1 p1 p2 p5 q5=>by
      obtain ⟨v,g1,g2⟩:=(ch q2 q1 p1 p2).ld (c:=2) (e:=eRs d.2.2) (set_get (set_get hxi)) rfl rfl
      rw [hv2] at g1
      cases g1
      rw [q5,p5,List.getD,g2]
      rfl
    have hK2: ∀ {d1 d2:List D} {b1 b2:Nat} (env:List (Nat×D)),d2=d1.take b2++ [.e (E.int ka)]++d1.drop (b2+1)->d1=ds.take b1++ [.e (E.str nm)]++ds.drop (b1+1)->
        b1=i.toNat * 3+0->b2=i.toNat * 3+1->
        subL [(5,.int (i+1)),(0,.vec 0 n 3),(1,.int ke)] env->K' ⟨env, [.vec true 3 d2,.res R2]⟩:=fun {d1 d2 b1 b2} env q2 q1 p1 p2 q=>by
      have W:=(ch q2 q1 p1 p2).same V2 V3
      simp only [List.set_set] at W
      refine hK _ (m-1) _ (by omega) (Weak.keep q) ⟨i+1,ke,_,d2,R2,by omega,by omega,?_,W,?_,fun j hj=>?_,fun j hj=>?_,rfl⟩
      · rw [show (i+1).toNat=i.toNat+1 by omega];omega
      · rw [List.length_set];exact h2
      · by_cases hji:(j:Int)<i
        · rw [List.getElem?_set_ne (show i.toNat≠j by omega)];exact h3 j hji
        · have:j=i.toNat:=by omega
          subst this
          rw [List.getElem?_set_self (by omega),hts,List.getElem?_map,mkL_get _ _ _ _ _ _ hr,<-hk1]
          show some [E.str nm,E.int ka,eRs (d.2.2.1,NS.mkR kb d.2.2.2)]=some (ntr (mkT k1 d))
          simp only [mkT,ntr]
          rw [hka',hkb',hnm]
      · rw [List.getElem?_set_ne (show i.toNat≠j by omega)];exact h4 j (by omega)
    have hbd:0<=k1/\ke<=140737488355328:=by omega
    clear hK h3 h4 m2 hk1 hdr hxi hV V1 V2 V3 V0 hts ch hd2 hv2 hnm
    cbv
    repeat' first | with_reducible rfl | (simp only [e1,<-hka,<-hkb];cbv) | with_reducible refine And.intro ?_ ?_ | ((with_reducible intro hcc);first | (cases hcc;done) | skip) | ((with_reducible first | show goC _ _ _ _ _ _ _ _ | show goOps _ _ _ _ _ | show goD _ _ _ _ _ _);cbv) | ((with_reducible show okWr _ _=_);rfl) | ((with_reducible first | refine callK_f hA hP h302 ?_ ?_ ?_);exact rfl;exact rfl;cbv) | ((with_reducible show A.call _ _ _ _ _ 20 _ _ _);refine callK_res hA hP rfl ?_ hcal;cbv) | ((with_reducible refine hA.ld1 _ _ _ ⟨?_,fun c hc=>?_⟩);rotate_left;(have e9:=ld2 (by assumption) (by assumption) (by omega) (by omega) (by omega) hc);subst e9;cbv) | ((with_reducible first | refine hA.fin_pl _ _ _ ?_ | refine hA.len _ _ _ _ _ fun z hz hb=>?_ | refine hA.off _ _ _ _ fun b hb=>?_ | refine hA.plus _ _ _ fun b hb=>?_);cbv) | ((with_reducible first | refine hA.st _ _ _ _ _ ⟨?_,fun ds hds=>?_⟩ | refine hA.sapp _ _ _ ⟨?_,fun sl hsl=>?_⟩);rotate_left;cbv) | (simp only [hA.lits];cbv)
    all_goals try simp only [hA.ar,inR,n_cast,Int.ofNat_eq_natCast,Option.getD_some,Option.getD_none] at *
    all_goals first
      | omega
      | exact hK2 _ (by assumption) (by assumption) (by omega) (by omega) ⟨rfl,rfl,rfl,trivial⟩
      | exact finv_refl hA
      | (subst_vars;simp only [List.length_append,List.length_take,List.length_drop,List.length_cons,List.length_nil];omega)
      | (trace_state;fail)
  · have e1:A.lt i (Int.ofNat n)=false:=by rw [hA.lt,Int.ofNat_eq_natCast];exact decide_eq_false (by omega)
    have hte:xs=ts:=by
      refine List.ext_getElem? fun j=>?_
      by_cases hj:(j:Int)<i
      · exact h3 j hj
      · rw [List.getElem?_eq_none (by omega),List.getElem?_eq_none (by omega)]
    have hRR:R=RF:=by rw [hV.hR,hRF,hte]
    have hdd:ds=dsF:=by rw [hV.hd,hdsF,hte]
    have hkk:k1=kr:=by
      rw [List.drop_eq_nil_of_le (by omega)] at hk1
      simp only [sumC] at hk1
      omega
    clear hK h3 h4 hV V0 hR0 hds0 hdsF hRF
    subst hRR hkk hdd
    cbv
    repeat' first | with_reducible rfl | (simp only [e1];cbv) | with_reducible refine And.intro ?_ ?_ | ((with_reducible intro hcc);first | (cases hcc;done) | skip) | ((with_reducible first | show goC _ _ _ _ _ _ _ _ | show goOps _ _ _ _ _ | show goD _ _ _ _ _ _);cbv) | ((with_reducible show okWr _ _=_);rfl) | ((with_reducible first | refine hA.fin_pl _ _ _ ?_ | refine hA.len _ _ _ _ _ fun z hz hb=>?_ | refine hA.off _ _ _ _ fun b hb=>?_ | refine hA.plus _ _ _ fun b hb=>?_);cbv) | ((with_reducible first | refine hA.st _ _ _ _ _ ⟨?_,fun ds hds=>?_⟩ | refine hA.sapp _ _ _ ⟨?_,fun sl hsl=>?_⟩);rotate_left;cbv) | (simp only [hA.lits];cbv)
    all_goals try simp only [hA.ar,inR,n_cast,Int.ofNat_eq_natCast,Option.getD_some,Option.getD_none] at *
    all_goals first
      | omega
      | exact finv_refl hA
      | (trace_state;fail))
set_option maxRecDepth 100000 in
theorem ok103z (k:Int) (hk:0<=k) (hk2:k<=140737488355328):Plain Try.prog 103 [.e (.sl []),.int k] (.int k):=okOf mixed p103 fun A P hA hP=>(by
  obtain ⟨es,hes⟩: ∃es:List (List E),es= []:=⟨_,rfl⟩
  have hl:es.length=0:=by rw [hes];rfl
  obtain ⟨i0,hi0⟩: ∃i:Int,i=0:=⟨_,rfl⟩
  obtain ⟨z1,hz1⟩: ∃z:Int,z=es.length:=⟨_,rfl⟩
  rw [<-hes]
  cbv
  repeat' first | with_reducible rfl | with_reducible refine And.intro ?_ ?_ | ((with_reducible intro hcc);first | (cases hcc;done) | skip) | ((with_reducible first | show goC _ _ _ _ _ _ _ _ | show goOps _ _ _ _ _ | show goD _ _ _ _ _ _);cbv) | ((with_reducible show okWr _ _=_);rfl) | ((with_reducible first | refine hA.fin_pl _ _ _ ?_ | refine hA.len _ _ _ _ _ fun z hz hb=>?_ | refine hA.off _ _ _ _ fun b hb=>?_ | refine hA.plus _ _ _ fun b hb=>?_);cbv) | ((with_reducible first | refine hA.st _ _ _ _ _ ⟨?_,fun ds hds=>?_⟩ | refine hA.sapp _ _ _ ⟨?_,fun sl hsl=>?_⟩);rotate_left;cbv) | (simp only [hA.lits];cbv)
  all_goals try simp only [hA.ar,inR,n_cast,Int.ofNat_eq_natCast,Option.getD_some,Option.getD_none] at *
  all_goals try omega
  refine hA.loopI (fun m s=>s=⟨[(5,.int i0),(0,.e (.sl es)),(1,.int k)], []⟩) 0 _
      (Weak.keep (env':= [(5,.int i0),(0,.e (.sl es)),(1,.int k)]) ⟨by rw [hi0];rfl,rfl,rfl,trivial⟩) rfl ?_
  rintro m s K' rfl hK
  have e1:A.lt i0 z1=false:=by rw [hA.lt];exact decide_eq_false (by omega)
  cbv
  repeat' first | with_reducible rfl | (simp only [e1];cbv) | with_reducible refine And.intro ?_ ?_ | ((with_reducible intro hcc);first | (cases hcc;done) | skip) | ((with_reducible first | show goC _ _ _ _ _ _ _ _ | show goOps _ _ _ _ _ | show goD _ _ _ _ _ _);cbv) | ((with_reducible show okWr _ _=_);rfl) | ((with_reducible refine hA.len es _ _ _ _ fun z hz hb=>?_);(have e6:=hz1.trans hz.symm);subst e6;cbv) | ((with_reducible first | refine hA.fin_pl _ _ _ ?_ | refine hA.len _ _ _ _ _ fun z hz hb=>?_ | refine hA.off _ _ _ _ fun b hb=>?_ | refine hA.plus _ _ _ fun b hb=>?_);cbv) | ((with_reducible first | refine hA.st _ _ _ _ _ ⟨?_,fun ds hds=>?_⟩ | refine hA.sapp _ _ _ ⟨?_,fun sl hsl=>?_⟩);rotate_left;cbv) | (simp only [hA.lits];cbv)
  all_goals try simp only [hA.ar,inR,n_cast,Int.ofNat_eq_natCast,Option.getD_some,Option.getD_none] at *
  all_goals first
    | omega
    | (trace_state;fail))
theorem mark264 (i:Nat) (L:List Nt) (k:Int) (hk:0<=k) (hk2:k+sumC cNt L<=140737488355328) (hlen:L.length<=1048576) (hlx: ∀n∈L,n.2.2.2.length<=1048576):MarkC Try.prog 103 id (eTs i L) (eTs i (mkL mkT cNt k L)) k (k+sumC cNt L):=by
  have h0:=sumC_nonneg cNt_nonneg L
  have hk1: ∀L:List Nt,∀e∈L.map ntr,e.length=3:=fun L e h=>by
    obtain ⟨p,_,rfl⟩:=List.mem_map.1 h
    rfl
  refine markOuter (k:=3) (sca_alike (k:=3) (fun _=>rfl) (fun a b j=>?_) L _ (mkL_len _ _ _ _)) (by simp [mkL_len]) (hk1 _) (NS.okV_int hk (by omega)) (fun h=>?_) (fun _ _ vs hvs=>?_) (hk1 _)
  · match j with
    | 0 | 1 | 2=>rfl
    | j+3=>rfl
  · have h:L= []:=by simpa using h
    have:=ok103z k hk (by omega)
    subst h
    simpa [sumC] using this
  · exact w264 L vs hvs k hk hk2 hlen hlx
theorem db_side {z z':Int} {R R':World->Value->List Nat->Prop} :Side (fun t=> [.agg [.rv (t 0)],.int z]) (fun _=> [.res R]) (fun _=> .int z') (fun _=> [.res R']):=
  ⟨fun t=>rfl,rfl,fun t=>rfl,by intro o ho;rw [List.mem_singleton] at ho;subst ho;rfl,fun t=>rfl,fun t=>rfl,Nat.le_refl _⟩
set_option maxRecDepth 100000 in
theorem mark225 (i:Nat) (L:List Nt) (k:Int) (hk:0<=k) (hk2:k+sumC cNt L<=140737488355328) (hlen:L.length<=1048576) (hlx: ∀n∈L,n.2.2.2.length<=1048576):
    MarkC Try.prog 45 (fun v=> .agg #[v]) (eTs i L) (eTs i (mkL mkT cNt k L)) k (k+sumC cNt L):=by
  have h0:=sumC_nonneg cNt_nonneg L
  refine markStruct (d:=fun t=> .agg [.rv (t 0)]) (NS.okV_int hk (by omega)) (fun w G h r=>?_) (procOf mixed p45 db_side fun A P hA hP=>(by
    have hm:=mark264 i L k hk hk2 hlen hlx
    obtain ⟨R0,hR0⟩: ∃R,R=Tree (eTs i L):=⟨_,rfl⟩
    obtain ⟨R1,hR1⟩: ∃R,R=Tree (eTs i (mkL mkT cNt k L)):=⟨_,rfl⟩
    obtain ⟨k2,hk2'⟩: ∃k2,k2=k+sumC cNt L:=⟨_,rfl⟩
    rw [<-hk2'] at hm ⊢
    rw [<-hR0,<-hR1]
    have hcal: ∀f,CallE Try.prog 103 [.rv 0,.int k] [(0,.res R0)] f {d:=some (.int k2),wr:= [(0,.res R1)],tc:= [0]} :=fun f=>by
      rw [hR0,hR1]
      exact hm.callE fun _ _ _ _ r=>NS.rv_id r
    clear hm hR0 hR1 hk2'
    cbv
    repeat' first | with_reducible rfl | with_reducible refine And.intro ?_ ?_ | ((with_reducible intro hcc);first | (cases hcc;done) | skip) | ((with_reducible first | show goC _ _ _ _ _ _ _ _ | show goOps _ _ _ _ _ | show goD _ _ _ _ _ _);cbv) | ((with_reducible show okWr _ _=_);rfl) | ((with_reducible show A.call _ _ _ _ _ 103 _ _ _);refine callK_res hA hP rfl ?_ hcal;cbv) | ((with_reducible refine res_fin hA ?_)) | ((with_reducible first | refine hA.fin_pl _ _ _ ?_);cbv) | (simp only [hA.lits];cbv)
    all_goals try simp only [hA.ar,inR,n_cast,Int.ofNat_eq_natCast,Option.getD_some,Option.getD_none] at *
    all_goals first
      | omega
      | rfl
      | (trace_state;fail)))
  · refine .agg rfl (fun j c hc=>?_) fun j c d hc hd=>?_
    · match j with
      | 0=>simp at hc;subst hc;exact rv_one r
      | j+1=>simp at hc
    · match j with
      | 0=>simp at hc hd;subst hc;subst hd;exact r
      | j+1=>simp at hc
end Go.Proofs.Ytfplalbognalkaa.Ab
/- The code of helpers over expressions. -/
namespace Go.Proofs.Ytfplalbognalkaa.Ab
open Go
def c173:F:=⟨27, [(.tmp 4)],(.seq (.reg [ZA 4 (.mov (.c (.int 0)))]) (.seq (.reg [ZA 6 (.mov 1),ZA 7 (.mov 0),ZA 8 (.lenl 7),ZA 9 (.bin .sub 6 8),ZA 1 (.mov 9)]) (.seq (.seq (.reg [ZA 10 (.mov 1),ZA 11 (.bin .lss 10 (.c (.int 0)))]) (.cond 11 (.seq (.reg [ZA 4 (.mov (.c (.int (-1))))]) .ret) .skip)) (.seq (.seq (.reg [ZA 5 (.mov (.c (.int 0)))]) (.block 0 (.loop (.seq (.seq (.reg [ZA 12 (.mov 5),ZA 13 (.mov 0),ZA 14 (.lenl 13),ZA 15 (.bin .lss 12 14)]) (.cond 15 .skip (.exit 0))) (.seq (.block 1 (.seq (.reg [ZA 18 (.mov 0),ZA 19 (.mov 5),ZA 20 (.iadr none 1 18 19),ZA 21 (.load false 1 20),ZA 22 (.mov 1),ZA 23 (.call 172 [21,22]),ZA 1 (.mov 23)]) (.seq (.reg [ZA 24 (.mov 1),ZA 25 (.bin .lss 24 (.c (.int 0)))]) (.cond 25 (.seq (.reg [ZA 4 (.mov (.c (.int (-1))))]) .ret) .skip)))) (.reg [ZA 16 (.mov 5),ZA 17 (.bin .add 16 (.c (.int 1))),ZA 5 (.mov 17)])))))) (.seq (.reg [ZA 26 (.mov 1),ZA 4 (.mov 26)]) .ret)))))⟩
theorem p173:prepF Try.prog 173=some c173:=by kernel_rfl
def c177:F:=⟨23, [(.tmp 2)],(.seq (.reg [ZA 2 (.mov (.c .zs))]) (.seq (.reg [ZA 5 (.mov 0),ZA 6 (.lenl 5),ZA 7 (.mks [(.e (.sl []))] 6),ZA 3 (.mov 7)]) (.seq (.seq (.reg [ZA 4 (.mov (.c (.int 0)))]) (.block 0 (.loop (.seq (.seq (.reg [ZA 8 (.mov 4),ZA 9 (.mov 0),ZA 10 (.lenl 9),ZA 11 (.bin .lss 8 10)]) (.cond 11 .skip (.exit 0))) (.seq (.block 1 (.reg [ZA 14 (.mov 3),ZA 15 (.mov 4),ZA 16 (.mov 0),ZA 17 (.mov 4),ZA 18 (.iadr none 1 16 17),ZA 19 (.load false 1 18),ZA 20 (.call 176 [19]),ZA 21 (.iadr none 1 14 15),ZN (.store false 1 21 20)])) (.reg [ZA 12 (.mov 4),ZA 13 (.bin .add 12 (.c (.int 1))),ZA 4 (.mov 13)])))))) (.seq (.reg [ZA 22 (.mov 3),ZA 2 (.mov 22)]) .ret))))⟩
theorem p177:prepF Try.prog 177=some c177:=by kernel_rfl
def c182:F:=⟨9, [(.tmp 4)],(.seq (.reg [ZA 4 (.mov (.c (.bool false)))]) (.seq (.reg [ZA 5 (.mov 0),ZA 6 (.mov 1),ZA 7 (.call 196 [5,6]),ZA 8 (.bin .geq 7 (.c (.int 0))),ZA 4 (.mov 8)]) .ret))⟩
theorem p182:prepF Try.prog 182=some c182:=by kernel_rfl
def c185:F:=⟨27, [(.tmp 4)],(.seq (.reg [ZA 4 (.mov (.c (.bool false)))]) (.seq (.seq (.reg [ZA 6 (.mov 0),ZA 7 (.lenl 6),ZA 8 (.mov 1),ZA 9 (.lenl 8),ZA 10 (.bin .neq 7 9)]) (.cond 10 (.seq (.reg [ZA 4 (.mov (.c (.bool false)))]) .ret) .skip)) (.seq (.seq (.reg [ZA 5 (.mov (.c (.int 0)))]) (.block 0 (.loop (.seq (.seq (.reg [ZA 11 (.mov 5),ZA 12 (.mov 0),ZA 13 (.lenl 12),ZA 14 (.bin .lss 11 13)]) (.cond 14 .skip (.exit 0))) (.seq (.block 1 (.seq (.dreg [⟨ZA 17 (.mov 0), [], [0]⟩,⟨ZA 18 (.mov 5), [0], [5]⟩,⟨ZA 19 (.iadr none 1 17 18), [], [17,18]⟩,⟨ZA 20 (.load false 1 19), [], [19]⟩,⟨ZA 21 (.mov 1), [0,1,2,3], [1]⟩,⟨ZA 22 (.mov 5), [0,1,2,3,4], [5]⟩,⟨ZA 23 (.iadr none 1 21 22), [0,1,2,3], [21,22]⟩,⟨ZA 24 (.load false 1 23), [0,1,2,3], [23]⟩,⟨ZA 25 (.call 184 [20,24]), [], [20,24]⟩,⟨ZA 26 (.un .not 25), [], [25]⟩]) (.cond 26 (.seq (.reg [ZA 4 (.mov (.c (.bool false)))]) .ret) .skip))) (.reg [ZA 15 (.mov 5),ZA 16 (.bin .add 15 (.c (.int 1))),ZA 5 (.mov 16)])))))) (.seq (.reg [ZA 4 (.mov (.c (.bool true)))]) .ret))))⟩
theorem p185:prepF Try.prog 185=some c185:=by kernel_rfl
def c196:F:=⟨19, [(.tmp 4)],(.seq (.reg [ZA 4 (.mov (.c (.int 0)))]) (.seq (.seq (.reg [ZA 6 (.mov 0),ZA 7 (.lenl 6),ZA 8 (.mov (.c (.int 0)))]) (.block 0 (.loop (.seq (.reg [ZA 9 (.bin .lss 8 7)]) (.seq (.cond 9 .skip (.exit 0)) (.seq (.block 1 (.seq (.reg [ZA 10 (.mov 8),ZA 5 (.mov 10)]) (.seq (.reg [ZA 11 (.mov 1),ZA 12 (.mov 0),ZA 13 (.mov 5),ZA 14 (.iadr none 1 12 13),ZA 15 (.load false 1 14),ZA 16 (.callv 11 [15])]) (.cond 16 (.seq (.reg [ZA 17 (.mov 5),ZA 4 (.mov 17)]) .ret) .skip)))) (.reg [ZA 18 (.bin .add 8 (.c (.int 1))),ZA 8 (.mov 18)]))))))) (.seq (.reg [ZA 4 (.mov (.c (.int (-1))))]) .ret)))⟩
theorem p196:prepF Try.prog 196=some c196:=by kernel_rfl
end Go.Proofs.Ytfplalbognalkaa.Ab
/- The code of what FlatOk reaches. -/
namespace Go.Proofs.Ytfplalbognalkaa.Ab
open Go
def c27:F:=⟨12, [(.tmp 4)],(.seq (.reg [ZA 2 (.box 0),ZA 4 (.mov (.c (.int 0)))]) (.seq (.reg [ZA 5 (.fadr 0 2),ZA 6 (.load false 1 5),ZA 7 (.mov 1),ZA 8 (.call 71 [6,7]),ZA 1 (.mov 8)]) (.seq (.seq (.reg [ZA 9 (.mov 1),ZA 10 (.bin .lss 9 (.c (.int 0)))]) (.cond 10 (.seq (.reg [ZA 4 (.mov (.c (.int (-1))))]) .ret) .skip)) (.seq (.reg [ZA 11 (.mov 1),ZA 4 (.mov 11)]) .ret))))⟩
theorem p27:prepF Try.prog 27=some c27:=by kernel_rfl
def c29:F:=⟨47, [(.tmp 4),(.tmp 5)],(.seq (.reg [ZA 2 (.box 0),ZA 3 (.box 1),ZA 4 (.mov (.c (.int 0))),ZA 5 (.mov (.c (.bool false)))]) (.seq (.reg [ZA 9 (.fadr 0 2),ZA 10 (.load false 1 9),ZA 11 (.lenl 10),ZA 6 (.mov 11)]) (.seq (.seq (.reg [ZA 12 (.load true 1 3),ZA 13 (.call 73 [12]),ZA 14 (.un .not 13),ZA 15 (.mov 14),ZF 16 15 (.mov 6),ZF 17 15 (.bin .lss 16 (.c (.int 1))),ZA 18 (.pick 15 (.c (.bool true)) 17),ZA 19 (.mov 18),ZF 20 19 (.mov 6),ZF 21 19 (.bin .gtr 20 (.c (.int 8000))),ZA 22 (.pick 19 (.c (.bool true)) 21),ZA 23 (.mov 22),ZF 24 23 (.fadr 1 2),ZF 25 23 (.load false 1 24),ZF 26 23 (.bin .lss 25 (.c (.int 0))),ZA 27 (.pick 23 (.c (.bool true)) 26),ZA 28 (.mov 27),ZF 29 28 (.fadr 1 2),ZF 30 28 (.load false 1 29),ZF 31 28 (.mov 6),ZF 32 28 (.bin .geq 30 31),ZA 33 (.pick 28 (.c (.bool true)) 32)]) (.cond 33 (.seq (.reg [ZA 4 (.mov (.c (.int 0))),ZA 5 (.mov (.c (.bool false)))]) .ret) .skip)) (.seq (.reg [ZA 35 (.load true 2 2),ZA 36 (.load true 1 3),ZA 37 (.call 74 [35,36]),ZA 34 (.mov 37),ZA 38 (.ext 0 34),ZA 39 (.ext 1 34),ZA 7 (.mov 38),ZA 8 (.mov 39)]) (.seq (.seq (.reg [ZA 40 (.mov 8),ZA 41 (.un .not 40)]) (.cond 41 (.seq (.reg [ZA 4 (.mov (.c (.int 0))),ZA 5 (.mov (.c (.bool false)))]) .ret) .skip)) (.seq (.reg [ZA 42 (.mov 7),ZA 43 (.fadr 1 2),ZA 44 (.load false 1 43),ZA 45 (.iadr none 1 42 44),ZA 46 (.load false 1 45),ZA 4 (.mov 46),ZA 5 (.mov (.c (.bool true)))]) .ret))))))⟩
theorem p29:prepF Try.prog 29=some c29:=by kernel_rfl
def c30:F:=⟨12, [(.cell 2 true 2)],(.seq (.reg [ZA 1 (.box 0),ZA 2 (.alloc [(.e (.sl [])),(.int 0)])]) (.seq (.reg [ZA 3 (.alloc [(.e (.sl [])),(.int 0)])]) (.seq (.reg [ZA 4 (.fadr 0 1),ZA 5 (.load false 1 4),ZA 6 (.call 75 [5]),ZA 7 (.fadr 0 3),ZN (.store false 1 7 6)]) (.seq (.reg [ZA 8 (.fadr 1 1),ZA 9 (.load false 1 8),ZA 10 (.fadr 1 3),ZN (.store false 1 10 9)]) (.seq (.reg [ZA 11 (.load true 2 3),ZN (.store true 2 2 11)]) .ret)))))⟩
theorem p30:prepF Try.prog 30=some c30:=by kernel_rfl
def c33:F:=⟨16, [(.tmp 4)],(.seq (.reg [ZA 2 (.box 0),ZA 3 (.box 1),ZA 4 (.mov (.c (.bool false)))]) (.seq (.seq (.reg [ZA 5 (.fadr 0 2),ZA 6 (.load false 1 5),ZA 7 (.fadr 0 3),ZA 8 (.load false 1 7),ZA 9 (.call 78 [6,8]),ZA 10 (.un .not 9)]) (.cond 10 (.seq (.reg [ZA 4 (.mov (.c (.bool false)))]) .ret) .skip)) (.seq (.seq (.reg [ZA 11 (.fadr 1 2),ZA 12 (.load false 1 11),ZA 13 (.fadr 1 3),ZA 14 (.load false 1 13),ZA 15 (.bin .neq 12 14)]) (.cond 15 (.seq (.reg [ZA 4 (.mov (.c (.bool false)))]) .ret) .skip)) (.seq (.reg [ZA 4 (.mov (.c (.bool true)))]) .ret))))⟩
theorem p33:prepF Try.prog 33=some c33:=by kernel_rfl
def c71:F:=⟨27, [(.tmp 4)],(.seq (.reg [ZA 4 (.mov (.c (.int 0)))]) (.seq (.reg [ZA 6 (.mov 1),ZA 7 (.mov 0),ZA 8 (.lenl 7),ZA 9 (.bin .sub 6 8),ZA 1 (.mov 9)]) (.seq (.seq (.reg [ZA 10 (.mov 1),ZA 11 (.bin .lss 10 (.c (.int 0)))]) (.cond 11 (.seq (.reg [ZA 4 (.mov (.c (.int (-1))))]) .ret) .skip)) (.seq (.seq (.reg [ZA 5 (.mov (.c (.int 0)))]) (.block 0 (.loop (.seq (.seq (.reg [ZA 12 (.mov 5),ZA 13 (.mov 0),ZA 14 (.lenl 13),ZA 15 (.bin .lss 12 14)]) (.cond 15 .skip (.exit 0))) (.seq (.block 1 (.seq (.reg [ZA 18 (.mov 0),ZA 19 (.mov 5),ZA 20 (.iadr none 8 18 19),ZA 21 (.load true 8 20),ZA 22 (.mov 1),ZA 23 (.call 126 [21,22]),ZA 1 (.mov 23)]) (.seq (.reg [ZA 24 (.mov 1),ZA 25 (.bin .lss 24 (.c (.int 0)))]) (.cond 25 (.seq (.reg [ZA 4 (.mov (.c (.int (-1))))]) .ret) .skip)))) (.reg [ZA 16 (.mov 5),ZA 17 (.bin .add 16 (.c (.int 1))),ZA 5 (.mov 17)])))))) (.seq (.reg [ZA 26 (.mov 1),ZA 4 (.mov 26)]) .ret)))))⟩
theorem p71:prepF Try.prog 71=some c71:=by kernel_rfl
def c74:F:=⟨64, [(.tmp 4),(.tmp 5)],(.seq (.reg [ZA 2 (.box 0),ZA 3 (.box 1),ZA 4 (.mov (.c .zs)),ZA 5 (.mov (.c (.bool false)))]) (.seq (.reg [ZA 12 (.lit 1 [(.v (.int .i64 0))] 0 []),ZA 6 (.mov 12)]) (.seq (.seq (.reg [ZA 7 (.mov (.c (.int 0)))]) (.block 0 (.loop (.seq (.seq (.reg [ZA 13 (.mov 7),ZA 14 (.fadr 0 2),ZA 15 (.load false 1 14),ZA 16 (.lenl 15),ZA 17 (.bin .lss 13 16)]) (.cond 17 .skip (.exit 0))) (.seq (.block 1 (.seq (.reg [ZA 20 (.fadr 0 2),ZA 21 (.load false 1 20),ZA 22 (.mov 7),ZA 23 (.iadr none 8 21 22),ZA 24 (.load true 8 23),ZA 8 (.alloc [(.int 0),(.int 0),(.int 0),(.int 0),(.e (.sl [])),(.e (.sl [])),(.int 0),(.int 0)]),ZN (.store true 8 8 24)]) (.seq (.seq (.reg [ZA 25 (.load true 8 8),ZA 26 (.mov 7),ZA 27 (.load true 1 3),ZA 28 (.call 129 [25,26,27]),ZA 29 (.un .not 28)]) (.cond 29 (.seq (.reg [ZA 30 (.mov 6),ZA 4 (.mov 30),ZA 5 (.mov (.c (.bool false)))]) .ret) .skip)) (.seq (.reg [ZA 9 (.mov (.c (.int 0)))]) (.seq (.reg [ZA 10 (.mov (.c (.int 0)))]) (.seq (.seq (.reg [ZA 31 (.fadr 0 8),ZA 32 (.load false 1 31),ZA 33 (.call 130 [32])]) (.cond 33 (.reg [ZA 34 (.mov 6),ZA 35 (.fadr 6 8),ZA 36 (.load false 1 35),ZA 37 (.iadr none 1 34 36),ZA 38 (.load false 1 37),ZA 9 (.mov 38)]) .skip)) (.seq (.seq (.reg [ZA 39 (.fadr 0 8),ZA 40 (.load false 1 39),ZA 41 (.call 131 [40])]) (.cond 41 (.reg [ZA 42 (.mov 6),ZA 43 (.fadr 7 8),ZA 44 (.load false 1 43),ZA 45 (.iadr none 1 42 44),ZA 46 (.load false 1 45),ZA 10 (.mov 46)]) .skip)) (.seq (.reg [ZA 47 (.load true 8 8),ZA 48 (.load true 1 3),ZA 49 (.mov 9),ZA 50 (.mov 10),ZA 51 (.call 132 [47,48,49,50]),ZA 11 (.mov 51)]) (.seq (.seq (.reg [ZA 52 (.mov 11),ZA 53 (.bin .lss 52 (.c (.int 0))),ZA 54 (.mov 53),ZF 55 54 (.mov 11),ZF 56 54 (.bin .gtr 55 (.c (.int 200))),ZA 57 (.pick 54 (.c (.bool true)) 56)]) (.cond 57 (.seq (.reg [ZA 58 (.mov 6),ZA 4 (.mov 58),ZA 5 (.mov (.c (.bool false)))]) .ret) .skip)) (.reg [ZA 59 (.mov 6),ZA 60 (.mov 11),ZA 61 (.lit 1 [(.v (.int .i64 0))] 1 [(0,60)]),ZA 62 (.app 1 59 61),ZA 6 (.mov 62)])))))))))) (.reg [ZA 18 (.mov 7),ZA 19 (.bin .add 18 (.c (.int 1))),ZA 7 (.mov 19)])))))) (.seq (.reg [ZA 63 (.mov 6),ZA 4 (.mov 63),ZA 5 (.mov (.c (.bool true)))]) .ret))))⟩
theorem p74:prepF Try.prog 74=some c74:=by kernel_rfl
def c75:F:=⟨23, [(.tmp 2)],(.seq (.reg [ZA 2 (.mov (.c .zs))]) (.seq (.reg [ZA 5 (.mov 0),ZA 6 (.lenl 5),ZA 7 (.mks [(.int 0),(.int 0),(.int 0),(.int 0),(.e (.sl [])),(.e (.sl [])),(.int 0),(.int 0)] 6),ZA 3 (.mov 7)]) (.seq (.seq (.reg [ZA 4 (.mov (.c (.int 0)))]) (.block 0 (.loop (.seq (.seq (.reg [ZA 8 (.mov 4),ZA 9 (.mov 0),ZA 10 (.lenl 9),ZA 11 (.bin .lss 8 10)]) (.cond 11 .skip (.exit 0))) (.seq (.block 1 (.reg [ZA 14 (.mov 3),ZA 15 (.mov 4),ZA 16 (.mov 0),ZA 17 (.mov 4),ZA 18 (.iadr none 8 16 17),ZA 19 (.load true 8 18),ZA 20 (.call 133 [19]),ZA 21 (.iadr none 8 14 15),ZN (.store true 8 21 20)])) (.reg [ZA 12 (.mov 4),ZA 13 (.bin .add 12 (.c (.int 1))),ZA 4 (.mov 13)])))))) (.seq (.reg [ZA 22 (.mov 3),ZA 2 (.mov 22)]) .ret))))⟩
theorem p75:prepF Try.prog 75=some c75:=by kernel_rfl
def c77:F:=⟨63, [(.tmp 4),(.tmp 5)],(.seq (.reg [ZA 2 (.box 0),ZA 3 (.box 1),ZA 4 (.mov (.c .zs)),ZA 5 (.mov (.c (.bool false)))]) (.seq (.seq (.reg [ZA 10 (.fadr 0 2),ZA 11 (.load false 1 10),ZA 12 (.lenl 11),ZA 13 (.bin .lss 12 (.c (.int 1))),ZA 14 (.mov 13),ZF 15 14 (.fadr 0 2),ZF 16 14 (.load false 1 15),ZF 17 14 (.lenl 16),ZF 18 14 (.bin .gtr 17 (.c (.int 8000))),ZA 19 (.pick 14 (.c (.bool true)) 18),ZA 20 (.mov 19),ZF 21 20 (.fadr 1 2),ZF 22 20 (.load false 1 21),ZF 23 20 (.bin .lss 22 (.c (.int 0))),ZA 24 (.pick 20 (.c (.bool true)) 23),ZA 25 (.mov 24),ZF 26 25 (.fadr 1 2),ZF 27 25 (.load false 1 26),ZF 28 25 (.fadr 0 2),ZF 29 25 (.load false 1 28),ZF 30 25 (.lenl 29),ZF 31 25 (.bin .geq 27 30),ZA 32 (.pick 25 (.c (.bool true)) 31),ZA 33 (.mov 32),ZF 34 33 (.load true 1 3),ZF 35 33 (.call 135 [34]),ZF 36 33 (.un .not 35),ZA 37 (.pick 33 (.c (.bool true)) 36)]) (.cond 37 (.seq (.reg [ZA 4 (.mov (.c .zs)),ZA 5 (.mov (.c (.bool false)))]) .ret) .skip)) (.seq (.reg [ZA 38 (.lit 1 [(.v (.int .i64 0))] 0 []),ZA 6 (.mov 38)]) (.seq (.seq (.reg [ZA 39 (.fadr 0 2),ZA 40 (.load false 1 39),ZA 41 (.lenl 40),ZA 42 (.mov (.c (.int 0)))]) (.block 0 (.loop (.seq (.reg [ZA 43 (.bin .lss 42 41)]) (.seq (.cond 43 .skip (.exit 0)) (.seq (.block 1 (.seq (.reg [ZA 44 (.mov 42),ZA 45 (.iadr none 8 40 42),ZA 46 (.load true 8 45),ZA 8 (.alloc [(.int 0),(.int 0),(.int 0),(.int 0),(.e (.sl [])),(.e (.sl [])),(.int 0),(.int 0)]),ZA 7 (.mov 44),ZN (.store true 8 8 46)]) (.seq (.seq (.reg [ZA 47 (.load true 8 8),ZA 48 (.mov 7),ZA 49 (.call 136 [47,48]),ZA 50 (.un .not 49)]) (.cond 50 (.seq (.reg [ZA 4 (.mov (.c .zs)),ZA 5 (.mov (.c (.bool false)))]) .ret) .skip)) (.seq (.reg [ZA 51 (.load true 8 8),ZA 52 (.load true 1 3),ZA 53 (.mov 6),ZA 54 (.call 137 [51,52,53]),ZA 9 (.mov 54)]) (.seq (.seq (.reg [ZA 55 (.mov 9),ZA 56 (.bin .lss 55 (.c (.int 0)))]) (.cond 56 (.seq (.reg [ZA 4 (.mov (.c .zs)),ZA 5 (.mov (.c (.bool false)))]) .ret) .skip)) (.reg [ZA 57 (.mov 6),ZA 58 (.mov 9),ZA 59 (.lit 1 [(.v (.int .i64 0))] 1 [(0,58)]),ZA 60 (.app 1 57 59),ZA 6 (.mov 60)])))))) (.reg [ZA 61 (.bin .add 42 (.c (.int 1))),ZA 42 (.mov 61)]))))))) (.seq (.reg [ZA 62 (.mov 6),ZA 4 (.mov 62),ZA 5 (.mov (.c (.bool true)))]) .ret)))))⟩
theorem p77:prepF Try.prog 77=some c77:=by kernel_rfl
def c78:F:=⟨27, [(.tmp 4)],(.seq (.reg [ZA 4 (.mov (.c (.bool false)))]) (.seq (.seq (.reg [ZA 6 (.mov 0),ZA 7 (.lenl 6),ZA 8 (.mov 1),ZA 9 (.lenl 8),ZA 10 (.bin .neq 7 9)]) (.cond 10 (.seq (.reg [ZA 4 (.mov (.c (.bool false)))]) .ret) .skip)) (.seq (.seq (.reg [ZA 5 (.mov (.c (.int 0)))]) (.block 0 (.loop (.seq (.seq (.reg [ZA 11 (.mov 5),ZA 12 (.mov 0),ZA 13 (.lenl 12),ZA 14 (.bin .lss 11 13)]) (.cond 14 .skip (.exit 0))) (.seq (.block 1 (.seq (.dreg [⟨ZA 17 (.mov 0), [], [0]⟩,⟨ZA 18 (.mov 5), [0], [5]⟩,⟨ZA 19 (.iadr none 8 17 18), [], [17,18]⟩,⟨ZA 20 (.load true 8 19), [], [19]⟩,⟨ZA 21 (.mov 1), [0,1,2,3], [1]⟩,⟨ZA 22 (.mov 5), [0,1,2,3,4], [5]⟩,⟨ZA 23 (.iadr none 8 21 22), [0,1,2,3], [21,22]⟩,⟨ZA 24 (.load true 8 23), [0,1,2,3], [23]⟩,⟨ZA 25 (.call 138 [20,24]), [], [20,24]⟩,⟨ZA 26 (.un .not 25), [], [25]⟩]) (.cond 26 (.seq (.reg [ZA 4 (.mov (.c (.bool false)))]) .ret) .skip))) (.reg [ZA 15 (.mov 5),ZA 16 (.bin .add 15 (.c (.int 1))),ZA 5 (.mov 16)])))))) (.seq (.reg [ZA 4 (.mov (.c (.bool true)))]) .ret))))⟩
theorem p78:prepF Try.prog 78=some c78:=by kernel_rfl
def c96:F:=⟨9, [(.tmp 2)],(.seq (.reg [ZA 2 (.mov (.c (.bool false)))]) (.seq (.reg [ZA 3 (.mov 0),ZA 4 (.bin .geq 3 (.c (.int 3))),ZA 5 (.mov 4),ZT 6 5 (.mov 0),ZT 7 5 (.bin .leq 6 (.c (.int 11))),ZA 8 (.pick 5 7 (.c (.bool false))),ZA 2 (.mov 8)]) .ret))⟩
theorem p96:prepF Try.prog 96=some c96:=by kernel_rfl
def c97:F:=⟨17, [(.tmp 2)],(.seq (.reg [ZA 2 (.mov (.c (.bool false)))]) (.seq (.reg [ZA 3 (.mov 0),ZA 4 (.bin .geq 3 (.c (.int 5))),ZA 5 (.mov 4),ZT 6 5 (.mov 0),ZT 7 5 (.bin .leq 6 (.c (.int 7))),ZA 8 (.pick 5 7 (.c (.bool false))),ZA 9 (.mov 8),ZF 10 9 (.mov 0),ZF 11 9 (.bin .geq 10 (.c (.int 9))),ZF 12 9 (.mov 11),ZT 13 12 (.mov 0),ZT 14 12 (.bin .leq 13 (.c (.int 11))),ZF 15 9 (.pick 12 14 (.c (.bool false))),ZA 16 (.pick 9 (.c (.bool true)) 15),ZA 2 (.mov 16)]) .ret))⟩
theorem p97:prepF Try.prog 97=some c97:=by kernel_rfl
def c126:F:=⟨18, [(.tmp 4)],(.seq (.reg [ZA 2 (.box 0),ZA 4 (.mov (.c (.int 0)))]) (.seq (.reg [ZA 5 (.fadr 4 2),ZA 6 (.load false 1 5),ZA 7 (.mov 1),ZA 8 (.call 172 [6,7]),ZA 1 (.mov 8)]) (.seq (.seq (.reg [ZA 9 (.mov 1),ZA 10 (.bin .lss 9 (.c (.int 0)))]) (.cond 10 (.seq (.reg [ZA 4 (.mov (.c (.int (-1))))]) .ret) .skip)) (.seq (.reg [ZA 11 (.fadr 5 2),ZA 12 (.load false 1 11),ZA 13 (.mov 1),ZA 14 (.call 173 [12,13]),ZA 1 (.mov 14)]) (.seq (.seq (.reg [ZA 15 (.mov 1),ZA 16 (.bin .lss 15 (.c (.int 0)))]) (.cond 16 (.seq (.reg [ZA 4 (.mov (.c (.int (-1))))]) .ret) .skip)) (.seq (.reg [ZA 17 (.mov 1),ZA 4 (.mov 17)]) .ret))))))⟩
theorem p126:prepF Try.prog 126=some c126:=by kernel_rfl
def c129:F:=⟨138, [(.tmp 6)],(.seq (.reg [ZA 3 (.box 0),ZA 5 (.box 2),ZA 6 (.mov (.c (.bool false)))]) (.seq (.seq (.reg [ZA 7 (.fadr 0 3),ZA 8 (.load false 1 7),ZA 9 (.bin .lss 8 (.c (.int 1))),ZA 10 (.mov 9),ZF 11 10 (.fadr 0 3),ZF 12 10 (.load false 1 11),ZF 13 10 (.bin .gtr 12 (.c (.int 11))),ZA 14 (.pick 10 (.c (.bool true)) 13)]) (.cond 14 (.seq (.reg [ZA 6 (.mov (.c (.bool false)))]) .ret) .skip)) (.seq (.seq (.reg [ZA 15 (.fadr 0 3),ZA 16 (.load false 1 15),ZA 17 (.bin .eql 16 (.c (.int 2))),ZA 18 (.mov 17),ZT 19 18 (.fadr 1 3),ZT 20 18 (.load false 1 19),ZT 21 18 (.bin .lss 20 (.c (.int 0))),ZT 22 18 (.mov 21),ZF 23 22 (.fadr 1 3),ZF 24 22 (.load false 1 23),ZF 25 22 (.fadr 0 5),ZF 26 22 (.load false 1 25),ZF 27 22 (.lenl 26),ZF 28 22 (.bin .geq 24 27),ZT 29 18 (.pick 22 (.c (.bool true)) 28),ZA 30 (.pick 18 29 (.c (.bool false)))]) (.cond 30 (.seq (.reg [ZA 6 (.mov (.c (.bool false)))]) .ret) .skip)) (.seq (.seq (.reg [ZA 31 (.fadr 0 3),ZA 32 (.load false 1 31),ZA 33 (.bin .neq 32 (.c (.int 2))),ZA 34 (.mov 33),ZT 35 34 (.fadr 1 3),ZT 36 34 (.load false 1 35),ZT 37 34 (.bin .neq 36 (.c (.int 0))),ZA 38 (.pick 34 37 (.c (.bool false)))]) (.cond 38 (.seq (.reg [ZA 6 (.mov (.c (.bool false)))]) .ret) .skip)) (.seq (.seq (.reg [ZA 39 (.fadr 0 3),ZA 40 (.load false 1 39),ZA 41 (.bin .eql 40 (.c (.int 7))),ZA 42 (.mov 41),ZT 43 42 (.fadr 2 3),ZT 44 42 (.load false 1 43),ZT 45 42 (.bin .lss 44 (.c (.int 1))),ZT 46 42 (.mov 45),ZF 47 46 (.fadr 2 3),ZF 48 46 (.load false 1 47),ZF 49 46 (.bin .gtr 48 (.c (.int 4))),ZT 50 42 (.pick 46 (.c (.bool true)) 49),ZA 51 (.pick 42 50 (.c (.bool false)))]) (.cond 51 (.seq (.reg [ZA 6 (.mov (.c (.bool false)))]) .ret) .skip)) (.seq (.seq (.reg [ZA 52 (.fadr 0 3),ZA 53 (.load false 1 52),ZA 54 (.bin .neq 53 (.c (.int 7))),ZA 55 (.mov 54),ZT 56 55 (.fadr 2 3),ZT 57 55 (.load false 1 56),ZT 58 55 (.bin .neq 57 (.c (.int 0))),ZA 59 (.pick 55 58 (.c (.bool false)))]) (.cond 59 (.seq (.reg [ZA 6 (.mov (.c (.bool false)))]) .ret) .skip)) (.seq (.seq (.reg [ZA 60 (.fadr 0 3),ZA 61 (.load false 1 60),ZA 62 (.call 130 [61]),ZA 63 (.mov 62),ZT 64 63 (.fadr 6 3),ZT 65 63 (.load false 1 64),ZT 66 63 (.bin .lss 65 (.c (.int 0))),ZT 67 63 (.mov 66),ZF 68 67 (.fadr 6 3),ZF 69 67 (.load false 1 68),ZF 70 67 (.mov 1),ZF 71 67 (.bin .geq 69 70),ZT 72 63 (.pick 67 (.c (.bool true)) 71),ZA 73 (.pick 63 72 (.c (.bool false))),ZA 74 (.mov 73),ZF 75 74 (.fadr 0 3),ZF 76 74 (.load false 1 75),ZF 77 74 (.call 130 [76]),ZF 78 74 (.un .not 77),ZF 79 74 (.mov 78),ZT 80 79 (.fadr 6 3),ZT 81 79 (.load false 1 80),ZT 82 79 (.bin .neq 81 (.c (.int 0))),ZF 83 74 (.pick 79 82 (.c (.bool false))),ZA 84 (.pick 74 (.c (.bool true)) 83)]) (.cond 84 (.seq (.reg [ZA 6 (.mov (.c (.bool false)))]) .ret) .skip)) (.seq (.seq (.reg [ZA 85 (.fadr 0 3),ZA 86 (.load false 1 85),ZA 87 (.call 131 [86]),ZA 88 (.mov 87),ZT 89 88 (.fadr 7 3),ZT 90 88 (.load false 1 89),ZT 91 88 (.bin .lss 90 (.c (.int 0))),ZT 92 88 (.mov 91),ZF 93 92 (.fadr 7 3),ZF 94 92 (.load false 1 93),ZF 95 92 (.mov 1),ZF 96 92 (.bin .geq 94 95),ZT 97 88 (.pick 92 (.c (.bool true)) 96),ZA 98 (.pick 88 97 (.c (.bool false))),ZA 99 (.mov 98),ZF 100 99 (.fadr 0 3),ZF 101 99 (.load false 1 100),ZF 102 99 (.call 131 [101]),ZF 103 99 (.un .not 102),ZF 104 99 (.mov 103),ZT 105 104 (.fadr 7 3),ZT 106 104 (.load false 1 105),ZT 107 104 (.bin .neq 106 (.c (.int 0))),ZF 108 99 (.pick 104 107 (.c (.bool false))),ZA 109 (.pick 99 (.c (.bool true)) 108)]) (.cond 109 (.seq (.reg [ZA 6 (.mov (.c (.bool false)))]) .ret) .skip)) (.seq (.seq (.reg [ZA 110 (.fadr 0 3),ZA 111 (.load false 1 110),ZA 112 (.call 174 [111]),ZA 113 (.un .not 112),ZA 114 (.mov 113),ZT 115 114 (.fadr 3 3),ZT 116 114 (.load false 1 115),ZT 117 114 (.bin .neq 116 (.c (.int 0))),ZA 118 (.pick 114 117 (.c (.bool false)))]) (.cond 118 (.seq (.reg [ZA 6 (.mov (.c (.bool false)))]) .ret) .skip)) (.seq (.reg [ZA 119 (.load true 8 3),ZA 120 (.call 175 [119]),ZA 121 (.mov 120),ZF 122 121 (.fadr 4 3),ZF 123 121 (.load false 1 122),ZF 124 121 (.lenl 123),ZF 125 121 (.bin .eql 124 (.c (.int 0))),ZA 126 (.pick 121 (.c (.bool true)) 125),ZA 127 (.mov 126),ZT 128 127 (.fadr 0 3),ZT 129 127 (.load false 1 128),ZT 130 127 (.bin .eql 129 (.c (.int 4))),ZT 131 127 (.mov 130),ZF 132 131 (.fadr 5 3),ZF 133 131 (.load false 1 132),ZF 134 131 (.lenl 133),ZF 135 131 (.bin .eql 134 (.c (.int 0))),ZT 136 127 (.pick 131 (.c (.bool true)) 135),ZA 137 (.pick 127 136 (.c (.bool false))),ZA 6 (.mov 137)]) .ret))))))))))⟩
theorem p129:prepF Try.prog 129=some c129:=by kernel_rfl
def c130:F:=⟨17, [(.tmp 2)],(.seq (.reg [ZA 2 (.mov (.c (.bool false)))]) (.seq (.reg [ZA 3 (.mov 0),ZA 4 (.call 131 [3]),ZA 5 (.mov 4),ZF 6 5 (.mov 0),ZF 7 5 (.bin .eql 6 (.c (.int 3))),ZA 8 (.pick 5 (.c (.bool true)) 7),ZA 9 (.mov 8),ZF 10 9 (.mov 0),ZF 11 9 (.bin .eql 10 (.c (.int 4))),ZA 12 (.pick 9 (.c (.bool true)) 11),ZA 13 (.mov 12),ZF 14 13 (.mov 0),ZF 15 13 (.bin .eql 14 (.c (.int 8))),ZA 16 (.pick 13 (.c (.bool true)) 15),ZA 2 (.mov 16)]) .ret))⟩
theorem p130:prepF Try.prog 130=some c130:=by kernel_rfl
def c131:F:=⟨25, [(.tmp 2)],(.seq (.reg [ZA 2 (.mov (.c (.bool false)))]) (.seq (.reg [ZA 3 (.mov 0),ZA 4 (.bin .eql 3 (.c (.int 5))),ZA 5 (.mov 4),ZF 6 5 (.mov 0),ZF 7 5 (.bin .eql 6 (.c (.int 6))),ZA 8 (.pick 5 (.c (.bool true)) 7),ZA 9 (.mov 8),ZF 10 9 (.mov 0),ZF 11 9 (.bin .eql 10 (.c (.int 7))),ZA 12 (.pick 9 (.c (.bool true)) 11),ZA 13 (.mov 12),ZF 14 13 (.mov 0),ZF 15 13 (.bin .eql 14 (.c (.int 9))),ZA 16 (.pick 13 (.c (.bool true)) 15),ZA 17 (.mov 16),ZF 18 17 (.mov 0),ZF 19 17 (.bin .eql 18 (.c (.int 10))),ZA 20 (.pick 17 (.c (.bool true)) 19),ZA 21 (.mov 20),ZF 22 21 (.mov 0),ZF 23 21 (.bin .eql 22 (.c (.int 11))),ZA 24 (.pick 21 (.c (.bool true)) 23),ZA 2 (.mov 24)]) .ret))⟩
theorem p131:prepF Try.prog 131=some c131:=by kernel_rfl
def c132:F:=⟨107, [(.tmp 8)],(.seq (.reg [ZA 4 (.box 0),ZA 5 (.box 1),ZA 8 (.mov (.c (.int 0)))]) (.seq (.seq (.reg [ZA 11 (.fadr 0 4),ZA 12 (.load false 1 11),ZA 13 (.bin .eql 12 (.c (.int 1)))]) (.cond 13 (.seq (.reg [ZA 8 (.mov (.c (.int 0)))]) .ret) .skip)) (.seq (.seq (.reg [ZA 14 (.fadr 0 4),ZA 15 (.load false 1 14),ZA 16 (.bin .eql 15 (.c (.int 2)))]) (.cond 16 (.seq (.reg [ZA 17 (.fadr 0 5),ZA 18 (.load false 1 17),ZA 19 (.fadr 1 4),ZA 20 (.load false 1 19),ZA 21 (.iadr none 3 18 20),ZA 22 (.fadr 1 21),ZA 23 (.load false 1 22),ZA 8 (.mov 23)]) .ret) .skip)) (.seq (.seq (.reg [ZA 24 (.fadr 0 4),ZA 25 (.load false 1 24),ZA 26 (.call 174 [25]),ZA 27 (.mov 26),ZT 28 27 (.fadr 3 4),ZT 29 27 (.load false 1 28),ZT 30 27 (.bin .lss 29 (.c (.int 0))),ZT 31 27 (.mov 30),ZF 32 31 (.fadr 3 4),ZF 33 31 (.load false 1 32),ZF 34 31 (.mov 2),ZF 35 31 (.bin .gtr 33 34),ZT 36 27 (.pick 31 (.c (.bool true)) 35),ZT 37 27 (.mov 36),ZF 38 37 (.fadr 3 4),ZF 39 37 (.load false 1 38),ZF 40 37 (.mov 3),ZF 41 37 (.bin .gtr 39 40),ZT 42 27 (.pick 37 (.c (.bool true)) 41),ZA 43 (.pick 27 42 (.c (.bool false)))]) (.cond 43 (.seq (.reg [ZA 8 (.mov (.c (.int (-1))))]) .ret) .skip)) (.seq (.reg [ZA 44 (.mov 3),ZA 9 (.mov 44)]) (.seq (.seq (.reg [ZA 45 (.fadr 0 4),ZA 46 (.load false 1 45),ZA 47 (.bin .eql 46 (.c (.int 3)))]) (.cond 47 (.reg [ZA 48 (.mov 2),ZA 9 (.mov 48)]) .skip)) (.seq (.seq (.reg [ZA 49 (.load true 8 4),ZA 50 (.call 175 [49]),ZA 51 (.mov 50),ZT 52 51 (.fadr 4 4),ZT 53 51 (.load false 1 52),ZT 54 51 (.mov 9),ZT 55 51 (.call 144 [53,54]),ZT 56 51 (.un .not 55),ZA 57 (.pick 51 56 (.c (.bool false)))]) (.cond 57 (.seq (.reg [ZA 8 (.mov (.c (.int (-1))))]) .ret) .skip)) (.seq (.seq (.reg [ZA 10 (.mov (.c (.int 0)))]) (.block 0 (.loop (.seq (.seq (.reg [ZA 58 (.mov 10),ZA 59 (.fadr 5 4),ZA 60 (.load false 1 59),ZA 61 (.lenl 60),ZA 62 (.bin .lss 58 61)]) (.cond 62 .skip (.exit 0))) (.seq (.block 1 (.seq (.reg [ZA 65 (.fadr 5 4),ZA 66 (.load false 1 65),ZA 67 (.mov 10),ZA 68 (.iadr none 1 66 67),ZA 69 (.load false 1 68),ZA 70 (.mov 2),ZA 71 (.call 144 [69,70]),ZA 72 (.un .not 71)]) (.cond 72 (.seq (.reg [ZA 8 (.mov (.c (.int (-1))))]) .ret) .skip))) (.reg [ZA 63 (.mov 10),ZA 64 (.bin .add 63 (.c (.int 1))),ZA 10 (.mov 64)])))))) (.seq (.seq (.reg [ZA 73 (.fadr 0 4),ZA 74 (.load false 1 73),ZA 75 (.bin .eql 74 (.c (.int 4)))]) (.cond 75 (.seq (.reg [ZA 76 (.fadr 5 4),ZA 77 (.load false 1 76),ZA 78 (.lenl 77),ZA 8 (.mov 78)]) .ret) .skip)) (.seq (.seq (.reg [ZA 79 (.fadr 0 4),ZA 80 (.load false 1 79),ZA 81 (.bin .eql 80 (.c (.int 5)))]) (.cond 81 (.seq (.reg [ZA 82 (.mov 2),ZA 83 (.mov 3),ZA 84 (.bin .add 82 83),ZA 85 (.fadr 3 4),ZA 86 (.load false 1 85),ZA 87 (.bin .sub 84 86),ZA 8 (.mov 87)]) .ret) .skip)) (.seq (.seq (.reg [ZA 88 (.fadr 0 4),ZA 89 (.load false 1 88),ZA 90 (.bin .eql 89 (.c (.int 6))),ZA 91 (.mov 90),ZF 92 91 (.fadr 0 4),ZF 93 91 (.load false 1 92),ZF 94 91 (.bin .eql 93 (.c (.int 7))),ZA 95 (.pick 91 (.c (.bool true)) 94)]) (.cond 95 (.seq (.reg [ZA 96 (.mov 2),ZA 97 (.bin .add 96 (.c (.int 1))),ZA 8 (.mov 97)]) .ret) .skip)) (.seq (.seq (.reg [ZA 98 (.fadr 0 4),ZA 99 (.load false 1 98),ZA 100 (.bin .eql 99 (.c (.int 9))),ZA 101 (.mov 100),ZT 102 101 (.mov 2),ZT 103 101 (.mov 3),ZT 104 101 (.bin .neq 102 103),ZA 105 (.pick 101 104 (.c (.bool false)))]) (.cond 105 (.seq (.reg [ZA 8 (.mov (.c (.int (-1))))]) .ret) .skip)) (.seq (.reg [ZA 106 (.mov 2),ZA 8 (.mov 106)]) .ret)))))))))))))⟩
theorem p132:prepF Try.prog 132=some c132:=by kernel_rfl
def c133:F:=⟨31, [(.cell 2 true 8)],(.seq (.reg [ZA 1 (.box 0),ZA 2 (.alloc [(.int 0),(.int 0),(.int 0),(.int 0),(.e (.sl [])),(.e (.sl [])),(.int 0),(.int 0)])]) (.seq (.reg [ZA 3 (.alloc [(.int 0),(.int 0),(.int 0),(.int 0),(.e (.sl [])),(.e (.sl [])),(.int 0),(.int 0)])]) (.seq (.reg [ZA 4 (.fadr 0 1),ZA 5 (.load false 1 4),ZA 6 (.fadr 0 3),ZN (.store false 1 6 5)]) (.seq (.reg [ZA 7 (.fadr 1 1),ZA 8 (.load false 1 7),ZA 9 (.fadr 1 3),ZN (.store false 1 9 8)]) (.seq (.reg [ZA 10 (.fadr 2 1),ZA 11 (.load false 1 10),ZA 12 (.fadr 2 3),ZN (.store false 1 12 11)]) (.seq (.reg [ZA 13 (.fadr 3 1),ZA 14 (.load false 1 13),ZA 15 (.fadr 3 3),ZN (.store false 1 15 14)]) (.seq (.reg [ZA 16 (.fadr 4 1),ZA 17 (.load false 1 16),ZA 18 (.call 176 [17]),ZA 19 (.fadr 4 3),ZN (.store false 1 19 18)]) (.seq (.reg [ZA 20 (.fadr 5 1),ZA 21 (.load false 1 20),ZA 22 (.call 177 [21]),ZA 23 (.fadr 5 3),ZN (.store false 1 23 22)]) (.seq (.reg [ZA 24 (.fadr 6 1),ZA 25 (.load false 1 24),ZA 26 (.fadr 6 3),ZN (.store false 1 26 25)]) (.seq (.reg [ZA 27 (.fadr 7 1),ZA 28 (.load false 1 27),ZA 29 (.fadr 7 3),ZN (.store false 1 29 28)]) (.seq (.reg [ZA 30 (.load true 8 3),ZN (.store true 8 2 30)]) .ret)))))))))))⟩
theorem p133:prepF Try.prog 133=some c133:=by kernel_rfl
def c136:F:=⟨94, [(.tmp 4)],(.seq (.reg [ZA 2 (.box 0),ZA 3 (.box 1),ZA 4 (.mov (.c (.bool false)))]) (.seq (.seq (.reg [ZA 6 (.fadr 0 2),ZA 7 (.load false 1 6),ZA 8 (.bin .lss 7 (.c (.int 1))),ZA 9 (.mov 8),ZF 10 9 (.fadr 0 2),ZF 11 9 (.load false 1 10),ZF 12 9 (.bin .gtr 11 (.c (.int 11))),ZA 13 (.pick 9 (.c (.bool true)) 12)]) (.cond 13 (.seq (.reg [ZA 4 (.mov (.c (.bool false)))]) .ret) .skip)) (.seq (.reg [ZA 14 (.mkf (.func 178) [] [3]),ZA 5 (.mov 14)]) (.seq (.seq (.dreg [⟨ZA 15 (.mov 5), [], [5]⟩,⟨ZA 16 (.fadr 0 2), [0], [2]⟩,⟨ZA 17 (.load false 1 16), [0], [16]⟩,⟨ZA 18 (.call 96 [17]), [0], [17]⟩,⟨ZA 19 (.fadr 6 2), [0,1,2,3], [2]⟩,⟨ZA 20 (.load false 1 19), [0,1,2,3], [19]⟩,⟨ZA 21 (.callv 15 [18,20]), [], [15,18,20]⟩,⟨ZA 22 (.un .not 21), [], [21]⟩,⟨ZA 23 (.mov 22), [], [22]⟩,⟨ZF 24 23 (.mov 5), [], [5,23]⟩,⟨ZF 25 23 (.fadr 0 2), [9], [2,23]⟩,⟨ZF 26 23 (.load false 1 25), [9], [25,23]⟩,⟨ZF 27 23 (.call 97 [26]), [9], [26,23]⟩,⟨ZF 28 23 (.fadr 7 2), [9,10,11,12], [2,23]⟩,⟨ZF 29 23 (.load false 1 28), [9,10,11,12], [28,23]⟩,⟨ZF 30 23 (.callv 24 [27,29]), [], [24,27,29,23]⟩,⟨ZF 31 23 (.un .not 30), [], [30,23]⟩,⟨ZA 32 (.pick 23 (.c (.bool true)) 31), [], [23,31]⟩]) (.cond 32 (.seq (.reg [ZA 4 (.mov (.c (.bool false)))]) .ret) .skip)) (.seq (.seq (.reg [ZA 33 (.fadr 0 2),ZA 34 (.load false 1 33),ZA 35 (.bin .neq 34 (.c (.int 2))),ZA 36 (.mov 35),ZT 37 36 (.fadr 1 2),ZT 38 36 (.load false 1 37),ZT 39 36 (.bin .neq 38 (.c (.int 0))),ZA 40 (.pick 36 39 (.c (.bool false))),ZA 41 (.mov 40),ZF 42 41 (.fadr 0 2),ZF 43 41 (.load false 1 42),ZF 44 41 (.bin .neq 43 (.c (.int 7))),ZF 45 41 (.mov 44),ZT 46 45 (.fadr 2 2),ZT 47 45 (.load false 1 46),ZT 48 45 (.bin .neq 47 (.c (.int 0))),ZF 49 41 (.pick 45 48 (.c (.bool false))),ZA 50 (.pick 41 (.c (.bool true)) 49),ZA 51 (.mov 50),ZF 52 51 (.fadr 0 2),ZF 53 51 (.load false 1 52),ZF 54 51 (.call 179 [53]),ZF 55 51 (.un .not 54),ZF 56 51 (.mov 55),ZT 57 56 (.fadr 3 2),ZT 58 56 (.load false 1 57),ZT 59 56 (.bin .neq 58 (.c (.int 0))),ZF 60 51 (.pick 56 59 (.c (.bool false))),ZA 61 (.pick 51 (.c (.bool true)) 60)]) (.cond 61 (.seq (.reg [ZA 4 (.mov (.c (.bool false)))]) .ret) .skip)) (.seq (.seq (.reg [ZA 62 (.fadr 0 2),ZA 63 (.load false 1 62),ZA 64 (.bin .eql 63 (.c (.int 7))),ZA 65 (.mov 64),ZT 66 65 (.fadr 2 2),ZT 67 65 (.load false 1 66),ZT 68 65 (.bin .lss 67 (.c (.int 1))),ZT 69 65 (.mov 68),ZF 70 69 (.fadr 2 2),ZF 71 69 (.load false 1 70),ZF 72 69 (.bin .gtr 71 (.c (.int 4))),ZT 73 65 (.pick 69 (.c (.bool true)) 72),ZA 74 (.pick 65 73 (.c (.bool false)))]) (.cond 74 (.seq (.reg [ZA 4 (.mov (.c (.bool false)))]) .ret) .skip)) (.seq (.reg [ZA 75 (.load true 8 2),ZA 76 (.call 180 [75]),ZA 77 (.mov 76),ZF 78 77 (.fadr 4 2),ZF 79 77 (.load false 1 78),ZF 80 77 (.lenl 79),ZF 81 77 (.bin .eql 80 (.c (.int 0))),ZA 82 (.pick 77 (.c (.bool true)) 81),ZA 83 (.mov 82),ZT 84 83 (.fadr 0 2),ZT 85 83 (.load false 1 84),ZT 86 83 (.bin .eql 85 (.c (.int 4))),ZT 87 83 (.mov 86),ZF 88 87 (.fadr 5 2),ZF 89 87 (.load false 1 88),ZF 90 87 (.lenl 89),ZF 91 87 (.bin .eql 90 (.c (.int 0))),ZT 92 83 (.pick 87 (.c (.bool true)) 91),ZA 93 (.pick 83 92 (.c (.bool false))),ZA 4 (.mov 93)]) .ret)))))))⟩
theorem p136:prepF Try.prog 136=some c136:=by kernel_rfl
def c137:F:=⟨108, [(.tmp 6)],(.seq (.reg [ZA 3 (.box 0),ZA 4 (.box 1),ZA 6 (.mov (.c (.int 0)))]) (.seq (.reg [ZA 7 (.alloc [(.int 0)]),ZN (.store false 1 7 (.c (.int 0))),ZA 8 (.mov (.c (.int 0)))]) (.seq (.seq (.reg [ZA 11 (.fadr 0 3),ZA 12 (.load false 1 11),ZA 13 (.call 96 [12])]) (.cond 13 (.reg [ZA 14 (.mov 2),ZA 15 (.fadr 6 3),ZA 16 (.load false 1 15),ZA 17 (.iadr none 1 14 16),ZA 18 (.load false 1 17),ZN (.store false 1 7 18)]) .skip)) (.seq (.seq (.reg [ZA 19 (.fadr 0 3),ZA 20 (.load false 1 19),ZA 21 (.call 97 [20])]) (.cond 21 (.reg [ZA 22 (.mov 2),ZA 23 (.fadr 7 3),ZA 24 (.load false 1 23),ZA 25 (.iadr none 1 22 24),ZA 26 (.load false 1 25),ZA 8 (.mov 26)]) .skip)) (.seq (.seq (.reg [ZA 27 (.fadr 0 3),ZA 28 (.load false 1 27),ZA 29 (.call 179 [28]),ZA 30 (.mov 29),ZT 31 30 (.fadr 3 3),ZT 32 30 (.load false 1 31),ZT 33 30 (.bin .lss 32 (.c (.int 0))),ZT 34 30 (.mov 33),ZF 35 34 (.fadr 3 3),ZF 36 34 (.load false 1 35),ZF 37 34 (.load false 1 7),ZF 38 34 (.mov 8),ZF 39 34 (.mn 37 38),ZF 40 34 (.bin .gtr 36 39),ZT 41 30 (.pick 34 (.c (.bool true)) 40),ZA 42 (.pick 30 41 (.c (.bool false)))]) (.cond 42 (.seq (.reg [ZA 6 (.mov (.c (.int (-1))))]) .ret) .skip)) (.seq (.seq (.reg [ZA 43 (.load true 8 3),ZA 44 (.call 180 [43])]) (.cond 44 (.seq (.reg [ZA 45 (.mov 8),ZA 9 (.mov 45)]) (.seq (.seq (.reg [ZA 46 (.fadr 0 3),ZA 47 (.load false 1 46),ZA 48 (.bin .eql 47 (.c (.int 3)))]) (.cond 48 (.reg [ZA 49 (.load false 1 7),ZA 9 (.mov 49)]) .skip)) (.seq (.reg [ZA 50 (.fadr 4 3),ZA 51 (.load false 1 50),ZA 52 (.mov 9),ZA 53 (.call 181 [51,52]),ZA 54 (.un .not 53)]) (.cond 54 (.seq (.reg [ZA 6 (.mov (.c (.int (-1))))]) .ret) .skip)))) .skip)) (.seq (.reg [ZA 55 (.load false 1 7),ZA 10 (.mov 55)]) (.seq (.seq (.reg [ZA 56 (.fadr 0 3),ZA 57 (.load false 1 56)]) (.block 0 (.seq (.reg [ZA 59 (.bin .eql 57 (.c (.int 2))),ZA 58 (.mov 59)]) (.cond 58 (.seq (.seq (.reg [ZA 60 (.fadr 1 3),ZA 61 (.load false 1 60),ZA 62 (.bin .lss 61 (.c (.int 0))),ZA 63 (.mov 62),ZF 64 63 (.fadr 1 3),ZF 65 63 (.load false 1 64),ZF 66 63 (.fadr 0 4),ZF 67 63 (.load false 1 66),ZF 68 63 (.lenl 67),ZF 69 63 (.bin .geq 65 68),ZA 70 (.pick 63 (.c (.bool true)) 69)]) (.cond 70 (.seq (.reg [ZA 6 (.mov (.c (.int (-1))))]) .ret) .skip)) (.reg [ZA 71 (.fadr 0 4),ZA 72 (.load false 1 71),ZA 73 (.fadr 1 3),ZA 74 (.load false 1 73),ZA 75 (.iadr none 3 72 74),ZA 76 (.fadr 1 75),ZA 77 (.load false 1 76),ZA 10 (.mov 77)])) (.seq (.reg [ZA 79 (.bin .eql 57 (.c (.int 4))),ZA 78 (.mov 79)]) (.cond 78 (.seq (.seq (.reg [ZA 80 (.fadr 5 3),ZA 81 (.load false 1 80),ZA 82 (.mkf (.func 183) [] [7]),ZA 83 (.call 182 [81,82])]) (.cond 83 (.seq (.reg [ZA 6 (.mov (.c (.int (-1))))]) .ret) .skip)) (.reg [ZA 84 (.fadr 5 3),ZA 85 (.load false 1 84),ZA 86 (.lenl 85),ZA 10 (.mov 86)])) (.seq (.reg [ZA 88 (.bin .eql 57 (.c (.int 5))),ZA 87 (.mov 88)]) (.cond 87 (.reg [ZA 89 (.load false 1 7),ZA 90 (.mov 8),ZA 91 (.bin .add 89 90),ZA 92 (.fadr 3 3),ZA 93 (.load false 1 92),ZA 94 (.bin .sub 91 93),ZA 10 (.mov 94)]) (.seq (.seq (.reg [ZA 96 (.bin .eql 57 (.c (.int 6))),ZA 95 (.mov 96)]) (.cond 95 .skip (.reg [ZA 97 (.bin .eql 57 (.c (.int 7))),ZA 95 (.mov 97)]))) (.cond 95 (.reg [ZA 98 (.load false 1 7),ZA 99 (.bin .add 98 (.c (.int 1))),ZA 10 (.mov 99)]) (.seq (.reg [ZA 101 (.bin .eql 57 (.c (.int 9))),ZA 100 (.mov 101)]) (.cond 100 (.seq (.reg [ZA 102 (.load false 1 7),ZA 103 (.mov 8),ZA 104 (.bin .neq 102 103)]) (.cond 104 (.seq (.reg [ZA 6 (.mov (.c (.int (-1))))]) .ret) .skip)) .skip)))))))))))) (.seq (.seq (.reg [ZA 105 (.mov 10),ZA 106 (.bin .gtr 105 (.c (.int 200)))]) (.cond 106 (.seq (.reg [ZA 6 (.mov (.c (.int (-1))))]) .ret) .skip)) (.seq (.reg [ZA 107 (.mov 10),ZA 6 (.mov 107)]) .ret))))))))))⟩
theorem p137:prepF Try.prog 137=some c137:=by kernel_rfl
def c138:F:=⟨47, [(.tmp 4)],(.seq (.reg [ZA 2 (.box 0),ZA 3 (.box 1),ZA 4 (.mov (.c (.bool false)))]) (.seq (.seq (.reg [ZA 5 (.fadr 0 2),ZA 6 (.load false 1 5),ZA 7 (.fadr 0 3),ZA 8 (.load false 1 7),ZA 9 (.bin .neq 6 8)]) (.cond 9 (.seq (.reg [ZA 4 (.mov (.c (.bool false)))]) .ret) .skip)) (.seq (.seq (.reg [ZA 10 (.fadr 1 2),ZA 11 (.load false 1 10),ZA 12 (.fadr 1 3),ZA 13 (.load false 1 12),ZA 14 (.bin .neq 11 13)]) (.cond 14 (.seq (.reg [ZA 4 (.mov (.c (.bool false)))]) .ret) .skip)) (.seq (.seq (.reg [ZA 15 (.fadr 2 2),ZA 16 (.load false 1 15),ZA 17 (.fadr 2 3),ZA 18 (.load false 1 17),ZA 19 (.bin .neq 16 18)]) (.cond 19 (.seq (.reg [ZA 4 (.mov (.c (.bool false)))]) .ret) .skip)) (.seq (.seq (.reg [ZA 20 (.fadr 3 2),ZA 21 (.load false 1 20),ZA 22 (.fadr 3 3),ZA 23 (.load false 1 22),ZA 24 (.bin .neq 21 23)]) (.cond 24 (.seq (.reg [ZA 4 (.mov (.c (.bool false)))]) .ret) .skip)) (.seq (.seq (.reg [ZA 25 (.fadr 4 2),ZA 26 (.load false 1 25),ZA 27 (.fadr 4 3),ZA 28 (.load false 1 27),ZA 29 (.call 184 [26,28]),ZA 30 (.un .not 29)]) (.cond 30 (.seq (.reg [ZA 4 (.mov (.c (.bool false)))]) .ret) .skip)) (.seq (.seq (.reg [ZA 31 (.fadr 5 2),ZA 32 (.load false 1 31),ZA 33 (.fadr 5 3),ZA 34 (.load false 1 33),ZA 35 (.call 185 [32,34]),ZA 36 (.un .not 35)]) (.cond 36 (.seq (.reg [ZA 4 (.mov (.c (.bool false)))]) .ret) .skip)) (.seq (.seq (.reg [ZA 37 (.fadr 6 2),ZA 38 (.load false 1 37),ZA 39 (.fadr 6 3),ZA 40 (.load false 1 39),ZA 41 (.bin .neq 38 40)]) (.cond 41 (.seq (.reg [ZA 4 (.mov (.c (.bool false)))]) .ret) .skip)) (.seq (.seq (.reg [ZA 42 (.fadr 7 2),ZA 43 (.load false 1 42),ZA 44 (.fadr 7 3),ZA 45 (.load false 1 44),ZA 46 (.bin .neq 43 45)]) (.cond 46 (.seq (.reg [ZA 4 (.mov (.c (.bool false)))]) .ret) .skip)) (.seq (.reg [ZA 4 (.mov (.c (.bool true)))]) .ret))))))))))⟩
theorem p138:prepF Try.prog 138=some c138:=by kernel_rfl
def c174:F:=⟨9, [(.tmp 2)],(.seq (.reg [ZA 2 (.mov (.c (.bool false)))]) (.seq (.reg [ZA 3 (.mov 0),ZA 4 (.call 131 [3]),ZA 5 (.mov 4),ZT 6 5 (.mov 0),ZT 7 5 (.bin .neq 6 (.c (.int 9))),ZA 8 (.pick 5 7 (.c (.bool false))),ZA 2 (.mov 8)]) .ret))⟩
theorem p174:prepF Try.prog 174=some c174:=by kernel_rfl
def c175:F:=⟨31, [(.tmp 2)],(.seq (.reg [ZA 1 (.box 0),ZA 2 (.mov (.c (.bool false)))]) (.seq (.reg [ZA 3 (.fadr 0 1),ZA 4 (.load false 1 3),ZA 5 (.bin .eql 4 (.c (.int 3))),ZA 6 (.mov 5),ZF 7 6 (.fadr 0 1),ZF 8 6 (.load false 1 7),ZF 9 6 (.bin .eql 8 (.c (.int 6))),ZA 10 (.pick 6 (.c (.bool true)) 9),ZA 11 (.mov 10),ZF 12 11 (.fadr 0 1),ZF 13 11 (.load false 1 12),ZF 14 11 (.bin .eql 13 (.c (.int 10))),ZA 15 (.pick 11 (.c (.bool true)) 14),ZA 16 (.mov 15),ZF 17 16 (.fadr 0 1),ZF 18 16 (.load false 1 17),ZF 19 16 (.bin .eql 18 (.c (.int 11))),ZA 20 (.pick 16 (.c (.bool true)) 19),ZA 21 (.mov 20),ZF 22 21 (.fadr 0 1),ZF 23 21 (.load false 1 22),ZF 24 21 (.bin .eql 23 (.c (.int 7))),ZF 25 21 (.mov 24),ZT 26 25 (.fadr 2 1),ZT 27 25 (.load false 1 26),ZT 28 25 (.bin .neq 27 (.c (.int 1))),ZF 29 21 (.pick 25 28 (.c (.bool false))),ZA 30 (.pick 21 (.c (.bool true)) 29),ZA 2 (.mov 30)]) .ret))⟩
theorem p175:prepF Try.prog 175=some c175:=by kernel_rfl
def c178:F:=⟨24, [(.tmp 5)],(.seq (.reg [ZA 5 (.mov (.c (.bool false)))]) (.seq (.reg [ZA 6 (.mov 0),ZA 7 (.mov 6),ZT 8 7 (.mov 1),ZT 9 7 (.bin .geq 8 (.c (.int 0))),ZA 10 (.pick 7 9 (.c (.bool false))),ZA 11 (.mov 10),ZT 12 11 (.mov 1),ZT 13 11 (.load false 1 2),ZT 14 11 (.bin .lss 12 13),ZA 15 (.pick 11 14 (.c (.bool false))),ZA 16 (.mov 15),ZF 17 16 (.mov 0),ZF 18 16 (.un .not 17),ZF 19 16 (.mov 18),ZT 20 19 (.mov 1),ZT 21 19 (.bin .eql 20 (.c (.int 0))),ZF 22 16 (.pick 19 21 (.c (.bool false))),ZA 23 (.pick 16 (.c (.bool true)) 22),ZA 5 (.mov 23)]) .ret))⟩
theorem p178:prepF Try.prog 178=some c178:=by kernel_rfl
def c179:F:=⟨17, [(.tmp 2)],(.seq (.reg [ZA 2 (.mov (.c (.bool false)))]) (.seq (.reg [ZA 3 (.mov 0),ZA 4 (.bin .geq 3 (.c (.int 5))),ZA 5 (.mov 4),ZT 6 5 (.mov 0),ZT 7 5 (.bin .leq 6 (.c (.int 7))),ZA 8 (.pick 5 7 (.c (.bool false))),ZA 9 (.mov 8),ZF 10 9 (.mov 0),ZF 11 9 (.bin .eql 10 (.c (.int 10))),ZA 12 (.pick 9 (.c (.bool true)) 11),ZA 13 (.mov 12),ZF 14 13 (.mov 0),ZF 15 13 (.bin .eql 14 (.c (.int 11))),ZA 16 (.pick 13 (.c (.bool true)) 15),ZA 2 (.mov 16)]) .ret))⟩
theorem p179:prepF Try.prog 179=some c179:=by kernel_rfl
def c180:F:=⟨31, [(.tmp 2)],(.seq (.reg [ZA 1 (.box 0),ZA 2 (.mov (.c (.bool false)))]) (.seq (.reg [ZA 3 (.fadr 0 1),ZA 4 (.load false 1 3),ZA 5 (.bin .eql 4 (.c (.int 3))),ZA 6 (.mov 5),ZF 7 6 (.fadr 0 1),ZF 8 6 (.load false 1 7),ZF 9 6 (.bin .eql 8 (.c (.int 6))),ZA 10 (.pick 6 (.c (.bool true)) 9),ZA 11 (.mov 10),ZF 12 11 (.fadr 0 1),ZF 13 11 (.load false 1 12),ZF 14 11 (.bin .eql 13 (.c (.int 10))),ZA 15 (.pick 11 (.c (.bool true)) 14),ZA 16 (.mov 15),ZF 17 16 (.fadr 0 1),ZF 18 16 (.load false 1 17),ZF 19 16 (.bin .eql 18 (.c (.int 11))),ZA 20 (.pick 16 (.c (.bool true)) 19),ZA 21 (.mov 20),ZF 22 21 (.fadr 0 1),ZF 23 21 (.load false 1 22),ZF 24 21 (.bin .eql 23 (.c (.int 7))),ZF 25 21 (.mov 24),ZT 26 25 (.fadr 2 1),ZT 27 25 (.load false 1 26),ZT 28 25 (.bin .gtr 27 (.c (.int 1))),ZF 29 21 (.pick 25 28 (.c (.bool false))),ZA 30 (.pick 21 (.c (.bool true)) 29),ZA 2 (.mov 30)]) .ret))⟩
theorem p180:prepF Try.prog 180=some c180:=by kernel_rfl
def c183:F:=⟨8, [(.tmp 3)],(.seq (.reg [ZA 3 (.mov (.c (.bool false)))]) (.seq (.reg [ZA 4 (.mov 0),ZA 5 (.load false 1 1),ZA 6 (.call 181 [4,5]),ZA 7 (.un .not 6),ZA 3 (.mov 7)]) .ret))⟩
theorem p183:prepF Try.prog 183=some c183:=by kernel_rfl
end Go.Proofs.Ytfplalbognalkaa.Ab
/- The laws' helpers over expressions: measured, copied, alike. -/
namespace Go.Proofs.Ytfplalbognalkaa.Ab
open Go
def cO (r:List (Int×Int)):Int:=r.length
theorem cO_nonneg (r:List (Int×Int)):0<=cO r:=by unfold cO;omega
def cOS (r:List (List (Int×Int))):Int:=r.length+sumC cO r
theorem cOS_nonneg (r:List (List (Int×Int))):0<=cOS r:=by have:=sumC_nonneg cO_nonneg r;unfold cOS;omega
theorem ok172' (r:List (Int×Int)) (x:List (List E)) (hx:x=r.map orow) (left:Int) (h:0<=left/\left<=1048576):Plain Try.prog 172 [.e (.sl x),.int left] (.int (cut left (cO r))):=by
  have:=ok172 x left h
  rw [hx,List.length_map] at this
  rw [hx];exact this
set_option maxRecDepth 100000 in
theorem ok173 (l:List (List (Int×Int))) (es:List (List E)) (he:es=l.map orr) (left:Int) (h:0<=left/\left<=1048576):Plain Try.prog 173 [.e (.sl es),.int left] (.int (cut left (l.length+sumC cO l))):=okOf mixed p173 fun A P hA hP=>(by
  have hl1:es.length=l.length:=by rw [he];simp
  have hsn: ∀l:List (List (Int×Int)),0<=sumC cO l:=sumC_nonneg cO_nonneg
  obtain ⟨r,hr⟩: ∃r,r=cut left (l.length+sumC cO l):=⟨_,rfl⟩
  rw [<-hr]
  have hr2:r=cut (left-es.length) (sumC cO l):=by rw [hr,hl1,cut,cut];congr 1 <;>(try apply propext) <;>omega
  clear hr
  cbv
  repeat' first | with_reducible rfl | with_reducible refine And.intro ?_ ?_ | ((with_reducible intro hcc);first | (cases hcc;done) | skip) | ((with_reducible first | show goC _ _ _ _ _ _ _ _ | show goOps _ _ _ _ _ | show goD _ _ _ _ _ _);cbv) | ((with_reducible show okWr _ _=_);rfl) | ((with_reducible first | refine hA.fin_pl _ _ _ ?_ | refine hA.len _ _ _ _ _ fun z hz hb=>?_ | refine hA.off _ _ _ _ fun b hb=>?_);cbv) | ((with_reducible first | refine hA.sapp _ _ _ ⟨?_,fun sl hsl=>?_⟩);rotate_left;cbv) | (simp only [hA.lits];cbv)
  all_goals try simp only [hA.ar,inR,n_cast,Int.ofNat_eq_natCast,Option.getD_some,Option.getD_none] at *
  all_goals try (first | omega | (have:=hb trivial trivial trivial;omega) | (have:r= -1:=(by simp only [decide_eq_true_eq] at *;have:=hsn l;rw [hr2];unfold cut;split <;>omega);rw [this];done))
  · refine hA.loopI (fun n s=> ∃(i lf:Int),0<=i/\n+i=es.length/\0<=lf/\lf<=1048576/\r=cut lf (sumC cO (l.drop i.toNat))/\
        s=⟨[(5,.int i),(0,.e (.sl es)),(1,.int lf),(4,.int 0)], []⟩) es.length _
      (Weak.keep (env':= [(5,.int 0),(0,.e (.sl es)),(1,.int (left-z)),(4,.int 0)]) ⟨rfl,rfl,rfl,rfl,trivial⟩) ⟨0,left-z,by omega,by omega,by simp only [decide_eq_false_iff_not] at *;omega,by omega,(by rw [hr2,hz];rfl),rfl⟩ ?_
    rintro n s K ⟨i,lf,h0,h1,h2,h3,h4,rfl⟩ hK
    clear hr2
    by_cases hin:(0:Int)<=i/\i<es.length
    · obtain ⟨r1,e1,q1⟩:=row_at he hin
      obtain ⟨x1,hx1⟩: ∃x,x=r1.map orow:=⟨_,rfl⟩
      have e1:es.getD i.toNat []= [E.sl x1]:=e1.trans (by rw [hx1])
      rw [sumC_drop q1] at h4
      obtain ⟨S,hS⟩: ∃S,S=sumC cO (l.drop (i.toNat+1)):=⟨_,rfl⟩
      have hS0:0<=S:=hS▸hsn _
      obtain ⟨c,hcost⟩: ∃c,c=cO r1:=⟨_,rfl⟩
      have hc0:0<=c:=hcost▸cO_nonneg _
      have hc:=ok172' r1 x1 hx1 lf ⟨h2,h3⟩
      rw [<-hS,<-hcost] at h4
      rw [<-hcost] at hc
      obtain ⟨u,hu⟩: ∃u,u=cut lf c:=⟨_,rfl⟩
      rw [<-hu] at hc
      have e8:(i+1).toNat=i.toNat+1:=by omega
      have g1:u<0->r= -1:=fun a=>by rw [h4];unfold cut at hu ⊢;split at hu <;>split <;>omega
      have g2:0<=u->r=cut u S/\u<=lf:=fun a=>by
        have hu2:u=lf-c:=by rw [hu] at a ⊢;unfold cut at a ⊢;split at a <;>split <;>omega
        refine ⟨?_,by omega⟩
        rw [h4,hu2]
        unfold cut
        rw [show lf-(c+S)=lf-c-S by omega]
      clear h4 hu hcost
      cbv
      repeat' first | with_reducible rfl | with_reducible refine And.intro ?_ ?_ | ((with_reducible intro hcc);first | (cases hcc;done) | skip) | ((with_reducible first | show goC _ _ _ _ _ _ _ _ | show goOps _ _ _ _ _ | show goD _ _ _ _ _ _);cbv) | ((with_reducible show okWr _ _=_);rfl) | ((with_reducible first | refine callK_f hA hP hc ?_ ?_ ?_);exact rfl;exact rfl;cbv) | ((with_reducible refine hA.row es _ _ ⟨hin,fun row hrow=>?_⟩);rw [e1] at hrow;subst hrow;cbv) | ((with_reducible first | refine hA.fin_pl _ _ _ ?_ | refine hA.len _ _ _ _ _ fun z hz hb=>?_ | refine hA.off _ _ _ _ fun b hb=>?_);cbv) | ((with_reducible first | refine hA.sapp _ _ _ ⟨?_,fun sl hsl=>?_⟩);rotate_left;cbv) | (simp only [hA.lits];cbv)
      all_goals try simp only [hA.ar,inR,n_cast,Int.ofNat_eq_natCast,Option.getD_some,Option.getD_none] at *
      all_goals first
        | omega
        | (clear hK g1 g2 he;simp at *;omega)
        | (rw [g1 (by clear hK g2;simp at *;omega)];done)
        | (have hu0:0<=u:=(by clear hK;simp at *;omega)
           exact hK _ (n-1) _ (by omega) (Weak.keep (env':= [(5,.int (i+1)),(0,.e (.sl es)),(1,.int u),(4,.int 0)]) ⟨rfl,rfl,rfl,rfl,trivial⟩) ⟨i+1,u,by omega,by omega,hu0,by have:=(g2 hu0).2;omega,by rw [e8,<-hS];exact (g2 hu0).1,rfl⟩)
        | (clear hK g1 g2 he;simp at *;omega)
        | (trace_state;fail)
    · have hd:l.drop i.toNat= []:=by rw [List.drop_eq_nil_iff];omega
      rw [hd] at h4
      have h5:r=lf:=by rw [h4,sumC,cut,if_neg (by omega)];omega
      clear h4 hK
      cbv
      repeat' first | with_reducible rfl | with_reducible refine And.intro ?_ ?_ | ((with_reducible intro hcc);first | (cases hcc;done) | skip) | ((with_reducible first | show goC _ _ _ _ _ _ _ _ | show goOps _ _ _ _ _ | show goD _ _ _ _ _ _);cbv) | ((with_reducible show okWr _ _=_);rfl) | (exfalso;simp only [hA.lt,hA.sub,decide_eq_true_eq,decide_eq_false_iff_not,n_cast] at *;omega) | ((with_reducible first | refine hA.fin_pl _ _ _ ?_ | refine hA.len _ _ _ _ _ fun z hz hb=>?_ | refine hA.off _ _ _ _ fun b hb=>?_);cbv) | ((with_reducible first | refine hA.sapp _ _ _ ⟨?_,fun sl hsl=>?_⟩);rotate_left;cbv) | (simp only [hA.lits];cbv)
      all_goals try simp only [hA.ar,inR,n_cast,Int.ofNat_eq_natCast,Option.getD_some,Option.getD_none] at *
      all_goals first
        | (rw [h5])
        | omega
        | (clear he;simp at *;omega)
        | (trace_state;fail))
set_option maxRecDepth 100000 in
set_option maxHeartbeats 1000000 in
theorem ok177 (l:List (List (Int×Int))) (es:List (List E)) (he:es=l.map orr) (hlen:es.length<=1048576) (hb2: ∀d∈l,d.length<=1048576):Plain Try.prog 177 [.e (.sl es)] (.e (.sl es)):=okOf mixed p177 fun A P hA hP=>(by
  have hl1:es.length=l.length:=by rw [he];simp
  have hes: ∀e∈es,e.length=1:=by
    rw [he]
    intro e h
    obtain ⟨p,_,rfl⟩:=List.mem_map.1 h
    rfl
  cbv
  repeat' first | with_reducible rfl | with_reducible refine And.intro ?_ ?_ | ((with_reducible intro hcc);first | (cases hcc;done) | skip) | ((with_reducible first | show goC _ _ _ _ _ _ _ _ | show goOps _ _ _ _ _ | show goD _ _ _ _ _ _);cbv) | ((with_reducible show okWr _ _=_);rfl) | ((with_reducible first | refine hA.fin_pl _ _ _ ?_ | refine hA.len _ _ _ _ _ fun z hz hb=>?_ | refine hA.off _ _ _ _ fun b hb=>?_ | refine hA.rep _ _ _ fun ds m hds hm=>?_ | refine hA.alt _ _ (Or.inl ?_));cbv) | ((with_reducible first | refine hA.st _ _ _ _ _ ⟨?_,fun ds hds=>?_⟩ | refine hA.sapp _ _ _ ⟨?_,fun sl hsl=>?_⟩);rotate_left;cbv) | (simp only [hA.lits];cbv)
  all_goals try simp only [hA.ar,inR,n_cast,Int.ofNat_eq_natCast,Option.getD_some,Option.getD_none] at *
  · omega
  · omega
  · refine hA.loopI (fun n s=> ∃(i:Int) (xs:List (List E)),0<=i/\n+i=es.length/\xs.length=es.length/\(∀e∈xs,e.length=1)/\(∀j:Nat,j<i->xs[j]?=es[j]?)/\
        s=⟨[(4,.int i),(3,.bs 0 0 m 1),(2,.zs),(0,.e (.sl es))], [.box (xs.flatten.map .e)]⟩) es.length _
      (Weak.keep (env':= [(4,.int 0),(3,.bs 0 0 m 1),(2,.zs),(0,.e (.sl es))]) ⟨rfl,rfl,rfl,rfl,trivial⟩)
      ⟨0,List.replicate m [E.sl []],by omega,by omega,by simp;omega,by simp,fun j hj=>by omega,by rw [<-buf_zero,hm];rw [hds];rfl⟩ ?_
    rintro n s K ⟨i,xs,h0,h1,h2,h3,h4,rfl⟩ hK
    obtain ⟨ys,hys⟩: ∃ys,ys=xs.flatten.map D.e:=⟨_,rfl⟩
    have hyl:ys.length=xs.length * 1:=by rw [hys,List.length_map,flatten_len h3]
    rw [<-hys]
    by_cases hin:(0:Int)<=i/\i<es.length
    · obtain ⟨r1,e1,q1⟩:=row_at he hin
      obtain ⟨x1,hx1⟩: ∃x,x=r1.map orow:=⟨_,rfl⟩
      have e1:es.getD i.toNat []= [E.sl x1]:=e1.trans (by rw [hx1])
      have hc:=ok176 r1 x1 hx1 (by rw [hx1,List.length_map];exact hb2 _ (List.mem_of_getElem? q1))
      have hrow0:es[i.toNat]?=some (es.getD i.toNat []):=by
        have:i.toNat<es.length:=by omega
        simp [List.getD,this]
      have hrl:(es.getD i.toNat []).length=1:=hes _ (List.mem_of_getElem? hrow0)
      cbv
      repeat' first | with_reducible rfl | with_reducible refine And.intro ?_ ?_ | ((with_reducible intro hcc);first | (cases hcc;done) | skip) | ((with_reducible first | show goC _ _ _ _ _ _ _ _ | show goOps _ _ _ _ _ | show goD _ _ _ _ _ _);cbv) | ((with_reducible show okWr _ _=_);rfl) | ((with_reducible first | refine callK_f hA hP hc ?_ ?_ ?_);exact rfl;exact rfl;cbv) | ((with_reducible refine hA.row es _ _ ⟨hin,fun row hrow=>?_⟩);rw [e1] at hrow;subst hrow;cbv) | ((with_reducible first | refine hA.fin_pl _ _ _ ?_ | refine hA.len _ _ _ _ _ fun z hz hb=>?_ | refine hA.off _ _ _ _ fun b hb=>?_ | refine hA.rep _ _ _ fun ds m hds hm=>?_ | refine hA.alt _ _ (Or.inl ?_));cbv) | ((with_reducible first | refine hA.st _ _ _ _ _ ⟨?_,fun ds hds=>?_⟩ | refine hA.sapp _ _ _ ⟨?_,fun sl hsl=>?_⟩);rotate_left;cbv) | (simp only [hA.lits];cbv)
      all_goals try simp only [hA.ar,inR,n_cast,Int.ofNat_eq_natCast,Option.getD_some,Option.getD_none] at *
      all_goals first
        | (show _<(m:Int);omega)
        | omega
        | (clear hK h4 he;grind;done)
        | (have hb':b=i.toNat * 1:=by omega
           refine hK _ (n-1) _ (by omega) (Weak.keep (env':= [(4,.int (i+1)),(3,.bs 0 0 m 1),(2,.zs),(0,.e (.sl es))]) ⟨rfl,rfl,rfl,rfl,trivial⟩)
             ⟨i+1,xs.set i.toNat (es.getD i.toNat []),by omega,by omega,by simp [h2],fun e h=>?_,fun j hj=>?_,?_⟩
           · rcases List.mem_or_eq_of_mem_set h with h | rfl
             · exact h3 e h
             · exact hrl
           · by_cases hji:(j:Int)<i
             · rw [List.getElem?_set_ne (show i.toNat≠j by omega)];exact h4 j hji
             · have:j=i.toNat:=by omega
               subst this
               rw [List.getElem?_set_self (show i.toNat<xs.length by omega),hrow0]
           · congr 2
             rw [hds,hys,hb']
             congr 1
             have q:=buf_set (k:=1) (by omega) h3 (i:=i.toNat) (show i.toNat<xs.length by omega) hrl
             rw [e1] at q ⊢
             exact q)
    · have hxe:xs=es:=by
        refine List.ext_getElem? fun j=>?_
        by_cases hj:(j:Int)<i
        · exact h4 j hj
        · rw [List.getElem?_eq_none (by omega),List.getElem?_eq_none (by omega)]
      cbv
      repeat' first | with_reducible rfl | with_reducible refine And.intro ?_ ?_ | ((with_reducible intro hcc);first | (cases hcc;done) | skip) | ((with_reducible first | show goC _ _ _ _ _ _ _ _ | show goOps _ _ _ _ _ | show goD _ _ _ _ _ _);cbv) | ((with_reducible show okWr _ _=_);rfl) | (exfalso;simp only [hA.lt,hA.sub,decide_eq_true_eq,decide_eq_false_iff_not,n_cast] at *;omega) | ((with_reducible refine hA.fin_bs (es:=es) ?_ ?_ hes)) | ((with_reducible first | refine hA.fin_pl _ _ _ ?_ | refine hA.len _ _ _ _ _ fun z hz hb=>?_ | refine hA.off _ _ _ _ fun b hb=>?_ | refine hA.rep _ _ _ fun ds m hds hm=>?_ | refine hA.alt _ _ (Or.inl ?_));cbv) | ((with_reducible first | refine hA.st _ _ _ _ _ ⟨?_,fun ds hds=>?_⟩ | refine hA.sapp _ _ _ ⟨?_,fun sl hsl=>?_⟩);rotate_left;cbv) | (simp only [hA.lits];cbv)
      all_goals try simp only [hA.ar,inR,n_cast,Int.ofNat_eq_natCast,Option.getD_some,Option.getD_none] at *
      all_goals first
        | (rw [hys,hxe];rfl)
        | omega
        | (clear hK h4 he;grind;done)
        | (trace_state;fail))
set_option maxRecDepth 100000 in
theorem ok185 (l l':List (List (Int×Int))) (es fs:List (List E)) (he:es=l.map orr) (hf:fs=l'.map orr):Plain Try.prog 185 [.e (.sl es),.e (.sl fs)] (.bool (decide (l=l'))):=okOf mixed p185 fun A P hA hP=>(by
  obtain ⟨r,hr⟩: ∃r:Bool,r=decide (l=l'):=⟨_,rfl⟩
  rw [<-hr]
  have hl1:es.length=l.length:=by rw [he];simp
  have hl2:fs.length=l'.length:=by rw [hf];simp
  cbv
  repeat' first | with_reducible rfl | with_reducible refine And.intro ?_ ?_ | ((with_reducible intro hcc);first | (cases hcc;done) | skip) | ((with_reducible first | show goC _ _ _ _ _ _ _ _ | show goOps _ _ _ _ _ | show goD _ _ _ _ _ _);cbv) | ((with_reducible show okWr _ _=_);rfl) | ((with_reducible first | refine hA.fin_pl _ _ _ ?_ | refine hA.len _ _ _ _ _ fun z hz hb=>?_ | refine hA.off _ _ _ _ fun b hb=>?_);cbv) | ((with_reducible first | refine hA.sapp _ _ _ ⟨?_,fun sl hsl=>?_⟩);rotate_left;cbv) | (simp only [hA.lits];cbv)
  all_goals try simp only [hA.ar,inR,n_cast,Int.ofNat_eq_natCast,Option.getD_some,Option.getD_none] at *
  · have:l≠l':=fun e=>by subst e;clear hr;grind
    rw [hr];simp [this]
  · have hzz:es.length=fs.length:=by clear hr;grind
    refine hA.loopI (fun n s=> ∃i:Int,0<=i/\n+i=l.length/\(∀j:Nat,j<i->l[j]?=l'[j]?)/\s=⟨[(5,.int i),(4,.bool false),(0,.e (.sl es)),(1,.e (.sl fs))], []⟩) l.length _ (Weak.keep (env':= [(5,.int 0),(4,.bool false),(0,.e (.sl es)),(1,.e (.sl fs))]) ⟨rfl,rfl,rfl,rfl,trivial⟩) ⟨0,by omega,by omega,fun j hj=>by omega,rfl⟩ ?_
    rintro n s K ⟨i,h0,h1,h2,rfl⟩ hK
    by_cases hin:(0:Int)<=i/\i<es.length
    · have hin2:(0:Int)<=i/\i<fs.length:=by omega
      obtain ⟨r1,e1,q1⟩:=row_at he hin
      obtain ⟨r2,e2,q2⟩:=row_at hf hin2
      obtain ⟨x1,hx1⟩: ∃x,x=r1.map orow:=⟨_,rfl⟩
      have e1:es.getD i.toNat []= [E.sl x1]:=e1.trans (by rw [hx1])
      obtain ⟨x2,hx2⟩: ∃x,x=r2.map orow:=⟨_,rfl⟩
      have e2:fs.getD i.toNat []= [E.sl x2]:=e2.trans (by rw [hx2])
      have hc:=ok184 r1 r2 x1 x2 hx1 hx2
      obtain ⟨c,hcc⟩: ∃c:Bool,c=decide ((r1:List (Int×Int))=r2):=⟨_,rfl⟩
      rw [<-hcc] at hc
      have c1:c=false->r=false:=fun e=>by
        rw [hr,decide_eq_false_iff_not]
        intro e'
        subst e'
        rw [q1] at q2
        cases q2
        rw [e] at hcc
        simp at hcc
      have c2:c=true->l[i.toNat]?=l'[i.toNat]?:=fun e=>by
        rw [e] at hcc
        rw [q1,q2,of_decide_eq_true hcc.symm]
      clear hcc hr
      cbv
      repeat' first | with_reducible rfl | with_reducible refine And.intro ?_ ?_ | ((with_reducible intro hcc);first | (cases hcc;done) | skip) | ((with_reducible first | show goC _ _ _ _ _ _ _ _ | show goOps _ _ _ _ _ | show goD _ _ _ _ _ _);cbv) | ((with_reducible show okWr _ _=_);rfl) | ((with_reducible first | refine callK_f hA hP hc ?_ ?_ ?_);exact rfl;exact rfl;cbv) | ((with_reducible refine hA.row es _ _ ⟨hin,fun row hrow=>?_⟩);rw [e1] at hrow;subst hrow;cbv) | ((with_reducible refine hA.row fs _ _ ⟨hin2,fun row hrow=>?_⟩);rw [e2] at hrow;subst hrow;cbv) | ((with_reducible first | refine hA.fin_pl _ _ _ ?_ | refine hA.len _ _ _ _ _ fun z hz hb=>?_ | refine hA.off _ _ _ _ fun b hb=>?_);cbv) | ((with_reducible first | refine hA.sapp _ _ _ ⟨?_,fun sl hsl=>?_⟩);rotate_left;cbv) | (simp only [hA.lits];cbv)
      all_goals try simp only [hA.ar,inR,n_cast,Int.ofNat_eq_natCast,Option.getD_some,Option.getD_none] at *
      all_goals first
        | omega
        | (refine hK _ (n-1) _ (by omega) (Weak.gc (env':= [(5,.int (i+1)),(4,.bool false),(0,.e (.sl es)),(1,.e (.sl fs))]) ⟨rfl,rfl,rfl,rfl,trivial⟩ rfl) ⟨i+1,by omega,by omega,fun j hj=>?_,rfl⟩
           by_cases hji:(j:Int)<i
           · exact h2 j hji
           · have:j=i.toNat:=by omega
             rw [this]
             exact c2 (by clear hK h2;grind))
        | (clear hK h2 he hf e1 e2;grind;done)
        | (trace_state;fail)
    · have hll:l=l':=by
        refine List.ext_getElem? fun j=>?_
        by_cases hj:(j:Int)<i
        · exact h2 j hj
        · rw [List.getElem?_eq_none (by omega),List.getElem?_eq_none (by omega)]
      have hr2:r=true:=by rw [hr,hll];simp
      clear hr
      cbv
      repeat' first | with_reducible rfl | with_reducible refine And.intro ?_ ?_ | ((with_reducible intro hcc);first | (cases hcc;done) | skip) | ((with_reducible first | show goC _ _ _ _ _ _ _ _ | show goOps _ _ _ _ _ | show goD _ _ _ _ _ _);cbv) | ((with_reducible show okWr _ _=_);rfl) | (exfalso;simp only [hA.lt,hA.sub,decide_eq_true_eq,decide_eq_false_iff_not,n_cast] at *;omega) | ((with_reducible first | refine hA.fin_pl _ _ _ ?_ | refine hA.len _ _ _ _ _ fun z hz hb=>?_ | refine hA.off _ _ _ _ fun b hb=>?_);cbv) | ((with_reducible first | refine hA.sapp _ _ _ ⟨?_,fun sl hsl=>?_⟩);rotate_left;cbv) | (simp only [hA.lits];cbv)
      all_goals try simp only [hA.ar,inR,n_cast,Int.ofNat_eq_natCast,Option.getD_some,Option.getD_none] at *
      all_goals first
        | (rw [hr2])
        | omega
        | (clear hK h2 hll he hf;grind;done)
        | (trace_state;fail))
end Go.Proofs.Ytfplalbognalkaa.Ab
/- The laws' helpers over flat plans: measured, copied, alike. -/
namespace Go.Proofs.Ytfplalbognalkaa.Ab
open Go
def cFd (d:Fd):Int:=cO d.Ex+cOS d.Exs
theorem cFd_nonneg (d:Fd):0<=cFd d:=by have:=cO_nonneg d.Ex;have:=cOS_nonneg d.Exs;unfold cFd;omega
def cFS (ns:List Fd):Int:=ns.length+sumC cFd ns
set_option maxRecDepth 100000 in
theorem ok126 (K1 T1 M1 W1:Int) (Ex1:List (Int×Int)) (Exs1:List (List (Int×Int))) (L1 R1:Int) (x1 y1:List (List E)) (hx1:x1=Ex1.map orow) (hy1:y1=Exs1.map orr) (left:Int) (h:0<=left/\left<=1048576):Plain Try.prog 126 [.agg [.int K1,.int T1,.int M1,.int W1,.e (.sl x1),.e (.sl y1),.int L1,.int R1],.int left] (.int (cut left (cFd ⟨K1,T1,M1,W1,Ex1,Exs1,L1,R1⟩))):=okOf mixed p126 fun A P hA hP=>(by
  obtain ⟨r,hr⟩: ∃r,r=cut left (cFd ⟨K1,T1,M1,W1,Ex1,Exs1,L1,R1⟩):=⟨_,rfl⟩
  rw [<-hr]
  obtain ⟨c,hc⟩: ∃c,c=cO Ex1:=⟨_,rfl⟩
  obtain ⟨b,hb⟩: ∃b,b=left-c:=⟨_,rfl⟩
  have hc0:0<=c:=hc▸cO_nonneg _
  have hs:=cOS_nonneg Exs1
  have hr2:r=if b-cOS Exs1<0 then-1 else b-cOS Exs1:=by
    rw [hr,cut]
    show (if left-(cO Ex1+cOS Exs1)<0 then (-1:Int) else left-(cO Ex1+cOS Exs1))=_
    rw [<-hc,show left-(c+cOS Exs1)=b-cOS Exs1 by omega]
  have h30:=ok172' Ex1 x1 hx1 left h
  rw [<-hc] at h30
  obtain ⟨u,hu⟩: ∃u,u=cut left c:=⟨_,rfl⟩
  rw [<-hu] at h30
  rw [cut,<-hb] at hu
  clear hr hc
  by_cases hb0:b<0
  · have hrr:r= -1:=by rw [hr2];split <;>omega
    rw [if_pos hb0] at hu
    have e1:A.lt u 0=true:=by rw [hA.lt];exact decide_eq_true (by omega)
    cbv
    repeat' first | with_reducible rfl | (simp only [e1];cbv) | with_reducible refine And.intro ?_ ?_ | ((with_reducible intro hcc);first | (cases hcc;done) | skip) | ((with_reducible first | show goC _ _ _ _ _ _ _ _ | show goOps _ _ _ _ _ | show goD _ _ _ _ _ _);cbv) | ((with_reducible show okWr _ _=_);rfl) | ((with_reducible first | refine callK_f hA hP h30 ?_ ?_ ?_);exact rfl;exact rfl;cbv) | ((with_reducible first | refine hA.fin_pl _ _ _ ?_);cbv) | (simp only [hA.lits];cbv)
    all_goals try simp only [hA.ar,inR,n_cast,Int.ofNat_eq_natCast,Option.getD_some,Option.getD_none] at *
    all_goals first | omega | (rw [hrr];done) | (trace_state;fail)
  · rw [if_neg hb0] at hu
    have e1:A.lt u 0=false:=by rw [hA.lt];exact decide_eq_false (by omega)
    have h311:Plain Try.prog 173 [.e (.sl y1),.int u] (.int r):=by rw [hr2,hu];exact ok173 Exs1 _ hy1 b (by omega)
    by_cases hr0:r<0
    · have e2:A.lt r 0=true:=by rw [hA.lt];exact decide_eq_true hr0
      have hrr:r= -1:=by rw [hr2] at hr0 ⊢;split at hr0 <;>split <;>omega
      cbv
      repeat' first | with_reducible rfl | (simp only [e1,e2];cbv) | with_reducible refine And.intro ?_ ?_ | ((with_reducible intro hcc);first | (cases hcc;done) | skip) | ((with_reducible first | show goC _ _ _ _ _ _ _ _ | show goOps _ _ _ _ _ | show goD _ _ _ _ _ _);cbv) | ((with_reducible show okWr _ _=_);rfl) | ((with_reducible first | refine callK_f hA hP h30 ?_ ?_ ?_ | refine callK_f hA hP h311 ?_ ?_ ?_);exact rfl;exact rfl;cbv) | ((with_reducible first | refine hA.fin_pl _ _ _ ?_);cbv) | (simp only [hA.lits];cbv)
      all_goals try simp only [hA.ar,inR,n_cast,Int.ofNat_eq_natCast,Option.getD_some,Option.getD_none] at *
      all_goals first | omega | (rw [hrr];done) | (trace_state;fail)
    · have e2:A.lt r 0=false:=by rw [hA.lt];exact decide_eq_false hr0
      cbv
      repeat' first | with_reducible rfl | (simp only [e1,e2];cbv) | with_reducible refine And.intro ?_ ?_ | ((with_reducible intro hcc);first | (cases hcc;done) | skip) | ((with_reducible first | show goC _ _ _ _ _ _ _ _ | show goOps _ _ _ _ _ | show goD _ _ _ _ _ _);cbv) | ((with_reducible show okWr _ _=_);rfl) | ((with_reducible first | refine callK_f hA hP h30 ?_ ?_ ?_ | refine callK_f hA hP h311 ?_ ?_ ?_);exact rfl;exact rfl;cbv) | ((with_reducible first | refine hA.fin_pl _ _ _ ?_);cbv) | (simp only [hA.lits];cbv)
      all_goals try simp only [hA.ar,inR,n_cast,Int.ofNat_eq_natCast,Option.getD_some,Option.getD_none] at *
      all_goals first | omega | rfl | (trace_state;fail))
set_option maxRecDepth 100000 in
theorem ok71 (l:List (Fd)) (es:List (List E)) (he:es=l.map fdr) (left:Int) (h:0<=left/\left<=1048576):Plain Try.prog 71 [.e (.sl es),.int left] (.int (cut left (l.length+sumC cFd l))):=okOf mixed p71 fun A P hA hP=>(by
  have hl1:es.length=l.length:=by rw [he];simp
  have hsn: ∀l:List (Fd),0<=sumC cFd l:=sumC_nonneg cFd_nonneg
  obtain ⟨r,hr⟩: ∃r,r=cut left (l.length+sumC cFd l):=⟨_,rfl⟩
  rw [<-hr]
  have hr2:r=cut (left-es.length) (sumC cFd l):=by rw [hr,hl1,cut,cut];congr 1 <;>(try apply propext) <;>omega
  clear hr
  cbv
  repeat' first | with_reducible rfl | with_reducible refine And.intro ?_ ?_ | ((with_reducible intro hcc);first | (cases hcc;done) | skip) | ((with_reducible first | show goC _ _ _ _ _ _ _ _ | show goOps _ _ _ _ _ | show goD _ _ _ _ _ _);cbv) | ((with_reducible show okWr _ _=_);rfl) | ((with_reducible first | refine hA.fin_pl _ _ _ ?_ | refine hA.len _ _ _ _ _ fun z hz hb=>?_ | refine hA.off _ _ _ _ fun b hb=>?_);cbv) | ((with_reducible first | refine hA.sapp _ _ _ ⟨?_,fun sl hsl=>?_⟩);rotate_left;cbv) | (simp only [hA.lits];cbv)
  all_goals try simp only [hA.ar,inR,n_cast,Int.ofNat_eq_natCast,Option.getD_some,Option.getD_none] at *
  all_goals try (first | omega | (have:=hb trivial trivial trivial;omega) | (have:r= -1:=(by simp only [decide_eq_true_eq] at *;have:=hsn l;rw [hr2];unfold cut;split <;>omega);rw [this];done))
  · refine hA.loopI (fun n s=> ∃(i lf:Int),0<=i/\n+i=es.length/\0<=lf/\lf<=1048576/\r=cut lf (sumC cFd (l.drop i.toNat))/\
        s=⟨[(5,.int i),(0,.e (.sl es)),(1,.int lf),(4,.int 0)], []⟩) es.length _
      (Weak.keep (env':= [(5,.int 0),(0,.e (.sl es)),(1,.int (left-z)),(4,.int 0)]) ⟨rfl,rfl,rfl,rfl,trivial⟩) ⟨0,left-z,by omega,by omega,by simp only [decide_eq_false_iff_not] at *;omega,by omega,(by rw [hr2,hz];rfl),rfl⟩ ?_
    rintro n s K ⟨i,lf,h0,h1,h2,h3,h4,rfl⟩ hK
    clear hr2
    by_cases hin:(0:Int)<=i/\i<es.length
    · obtain ⟨⟨K1,T1,M1,W1,Ex1,Exs1,L1,R1⟩,e1,q1⟩:=row_at he hin
      obtain ⟨x1,hx1⟩: ∃x,x=Ex1.map orow:=⟨_,rfl⟩
      obtain ⟨y1,hy1⟩: ∃x,x=Exs1.map orr:=⟨_,rfl⟩
      have e1:es.getD i.toNat []= [E.int K1,E.int T1,E.int M1,E.int W1,E.sl x1,E.sl y1,E.int L1,E.int R1]:=e1.trans (by rw [hx1,hy1])
      rw [sumC_drop q1] at h4
      obtain ⟨S,hS⟩: ∃S,S=sumC cFd (l.drop (i.toNat+1)):=⟨_,rfl⟩
      have hS0:0<=S:=hS▸hsn _
      obtain ⟨c,hcost⟩: ∃c,c=cFd ⟨K1,T1,M1,W1,Ex1,Exs1,L1,R1⟩:=⟨_,rfl⟩
      have hc0:0<=c:=hcost▸cFd_nonneg _
      have hc:=ok126 K1 T1 M1 W1 Ex1 Exs1 L1 R1 x1 y1 hx1 hy1 lf ⟨h2,h3⟩
      rw [<-hS,<-hcost] at h4
      rw [<-hcost] at hc
      obtain ⟨u,hu⟩: ∃u,u=cut lf c:=⟨_,rfl⟩
      rw [<-hu] at hc
      have e8:(i+1).toNat=i.toNat+1:=by omega
      have g1:u<0->r= -1:=fun a=>by rw [h4];unfold cut at hu ⊢;split at hu <;>split <;>omega
      have g2:0<=u->r=cut u S/\u<=lf:=fun a=>by
        have hu2:u=lf-c:=by rw [hu] at a ⊢;unfold cut at a ⊢;split at a <;>split <;>omega
        refine ⟨?_,by omega⟩
        rw [h4,hu2]
        unfold cut
        rw [show lf-(c+S)=lf-c-S by omega]
      clear h4 hu hcost
      cbv
      repeat' first | with_reducible rfl | with_reducible refine And.intro ?_ ?_ | ((with_reducible intro hcc);first | (cases hcc;done) | skip) | ((with_reducible first | show goC _ _ _ _ _ _ _ _ | show goOps _ _ _ _ _ | show goD _ _ _ _ _ _);cbv) | ((with_reducible show okWr _ _=_);rfl) | ((with_reducible first | refine callK_f hA hP hc ?_ ?_ ?_);exact rfl;exact rfl;cbv) | ((with_reducible refine hA.row es _ _ ⟨hin,fun row hrow=>?_⟩);rw [e1] at hrow;subst hrow;cbv) | ((with_reducible first | refine hA.fin_pl _ _ _ ?_ | refine hA.len _ _ _ _ _ fun z hz hb=>?_ | refine hA.off _ _ _ _ fun b hb=>?_);cbv) | ((with_reducible first | refine hA.sapp _ _ _ ⟨?_,fun sl hsl=>?_⟩);rotate_left;cbv) | (simp only [hA.lits];cbv)
      all_goals try simp only [hA.ar,inR,n_cast,Int.ofNat_eq_natCast,Option.getD_some,Option.getD_none] at *
      all_goals first
        | omega
        | (clear hK g1 g2 he;simp at *;omega)
        | (rw [g1 (by clear hK g2;simp at *;omega)];done)
        | (have hu0:0<=u:=(by clear hK;simp at *;omega)
           exact hK _ (n-1) _ (by omega) (Weak.keep (env':= [(5,.int (i+1)),(0,.e (.sl es)),(1,.int u),(4,.int 0)]) ⟨rfl,rfl,rfl,rfl,trivial⟩) ⟨i+1,u,by omega,by omega,hu0,by have:=(g2 hu0).2;omega,by rw [e8,<-hS];exact (g2 hu0).1,rfl⟩)
        | (clear hK g1 g2 he;simp at *;omega)
        | (trace_state;fail)
    · have hd:l.drop i.toNat= []:=by rw [List.drop_eq_nil_iff];omega
      rw [hd] at h4
      have h5:r=lf:=by rw [h4,sumC,cut,if_neg (by omega)];omega
      clear h4 hK
      cbv
      repeat' first | with_reducible rfl | with_reducible refine And.intro ?_ ?_ | ((with_reducible intro hcc);first | (cases hcc;done) | skip) | ((with_reducible first | show goC _ _ _ _ _ _ _ _ | show goOps _ _ _ _ _ | show goD _ _ _ _ _ _);cbv) | ((with_reducible show okWr _ _=_);rfl) | (exfalso;simp only [hA.lt,hA.sub,decide_eq_true_eq,decide_eq_false_iff_not,n_cast] at *;omega) | ((with_reducible first | refine hA.fin_pl _ _ _ ?_ | refine hA.len _ _ _ _ _ fun z hz hb=>?_ | refine hA.off _ _ _ _ fun b hb=>?_);cbv) | ((with_reducible first | refine hA.sapp _ _ _ ⟨?_,fun sl hsl=>?_⟩);rotate_left;cbv) | (simp only [hA.lits];cbv)
      all_goals try simp only [hA.ar,inR,n_cast,Int.ofNat_eq_natCast,Option.getD_some,Option.getD_none] at *
      all_goals first
        | (rw [h5])
        | omega
        | (clear he;simp at *;omega)
        | (trace_state;fail))
theorem ok27 (ns:List Fd) (rt:Int) (x:List (List E)) (hx:x=ns.map fdr) (left:Int) (h:0<=left/\left<=1048576):Plain Try.prog 27 [.agg [.e (.sl x),.int rt],.int left] (.int (cut left (cFS ns))):=okOf mixed p27 fun A P hA hP=>(by
  have h236:Plain Try.prog 71 [.e (.sl x),.int left] (.int (cut left (cFS ns))):=ok71 ns _ hx left h
  obtain ⟨u,hu⟩: ∃u,u=cut left (cFS ns):=⟨_,rfl⟩
  rw [<-hu] at h236 ⊢
  have hu2:u<0->u= -1:=fun a=>by rw [hu,cut] at a ⊢;split at a <;>split <;>omega
  clear hu
  cbv
  repeat' first | with_reducible rfl | with_reducible refine And.intro ?_ ?_ | ((with_reducible intro hcc);first | (cases hcc;done) | skip) | ((with_reducible first | show goC _ _ _ _ _ _ _ _ | show goOps _ _ _ _ _ | show goD _ _ _ _ _ _);cbv) | ((with_reducible show okWr _ _=_);rfl) | ((with_reducible first | refine callK_f hA hP h236 ?_ ?_ ?_);exact rfl;exact rfl;cbv) | ((with_reducible first | refine hA.fin_pl _ _ _ ?_);cbv) | (simp only [hA.lits];cbv)
  all_goals try simp only [hA.ar,inR,n_cast,Int.ofNat_eq_natCast,Option.getD_some,Option.getD_none] at *
  all_goals first | rfl | omega | (rw [hu2 (by simp at *;omega)]) | (trace_state;fail))
set_option maxRecDepth 100000 in
theorem ok133 (K1 T1 M1 W1:Int) (Ex1:List (Int×Int)) (Exs1:List (List (Int×Int))) (L1 R1:Int) (x1 y1:List (List E)) (hx1:x1=Ex1.map orow) (hy1:y1=Exs1.map orr) (h1:Ex1.length<=1048576) (h2:Exs1.length<=1048576) (h3: ∀e∈Exs1,e.length<=1048576):Plain Try.prog 133 [.agg [.int K1,.int T1,.int M1,.int W1,.e (.sl x1),.e (.sl y1),.int L1,.int R1]] (.agg [.int K1,.int T1,.int M1,.int W1,.e (.sl x1),.e (.sl y1),.int L1,.int R1]):=okOf mixed p133 fun A P hA hP=>(by
  have h32:=ok176 Ex1 x1 hx1 (by rw [hx1,List.length_map];exact h1)
  have h314:=ok177 Exs1 y1 hy1 (by rw [hy1,List.length_map];exact h2) h3
  cbv
  repeat' first | with_reducible rfl | with_reducible refine And.intro ?_ ?_ | ((with_reducible intro hcc);first | (cases hcc;done) | skip) | ((with_reducible first | show goC _ _ _ _ _ _ _ _ | show goOps _ _ _ _ _ | show goD _ _ _ _ _ _);cbv) | ((with_reducible show okWr _ _=_);rfl) | ((with_reducible first | refine callK_f hA hP h32 ?_ ?_ ?_ | refine callK_f hA hP h314 ?_ ?_ ?_);exact rfl;exact rfl;cbv) | ((with_reducible first | refine hA.fin_pl _ _ _ ?_);cbv) | ((with_reducible first | refine hA.st _ _ _ _ _ ⟨?_,fun ds hds=>?_⟩);rotate_left;cbv) | (simp only [hA.lits];cbv)
  all_goals try simp only [hA.ar,inR,n_cast,Int.ofNat_eq_natCast,Option.getD_some,Option.getD_none] at *
  )
set_option maxRecDepth 100000 in
set_option maxHeartbeats 1000000 in
theorem ok75 (l:List (Fd)) (es:List (List E)) (he:es=l.map fdr) (hlen:es.length<=1048576) (hb2: ∀d∈l,d.Ex.length<=1048576/\d.Exs.length<=1048576/\ ∀e∈d.Exs,e.length<=1048576):Plain Try.prog 75 [.e (.sl es)] (.e (.sl es)):=okOf mixed p75 fun A P hA hP=>(by
  have hl1:es.length=l.length:=by rw [he];simp
  have hes: ∀e∈es,e.length=8:=by
    rw [he]
    intro e h
    obtain ⟨p,_,rfl⟩:=List.mem_map.1 h
    rfl
  cbv
  repeat' first | with_reducible rfl | with_reducible refine And.intro ?_ ?_ | ((with_reducible intro hcc);first | (cases hcc;done) | skip) | ((with_reducible first | show goC _ _ _ _ _ _ _ _ | show goOps _ _ _ _ _ | show goD _ _ _ _ _ _);cbv) | ((with_reducible show okWr _ _=_);rfl) | ((with_reducible first | refine hA.fin_pl _ _ _ ?_ | refine hA.len _ _ _ _ _ fun z hz hb=>?_ | refine hA.off _ _ _ _ fun b hb=>?_ | refine hA.rep _ _ _ fun ds m hds hm=>?_ | refine hA.alt _ _ (Or.inl ?_));cbv) | ((with_reducible first | refine hA.st _ _ _ _ _ ⟨?_,fun ds hds=>?_⟩ | refine hA.sapp _ _ _ ⟨?_,fun sl hsl=>?_⟩);rotate_left;cbv) | (simp only [hA.lits];cbv)
  all_goals try simp only [hA.ar,inR,n_cast,Int.ofNat_eq_natCast,Option.getD_some,Option.getD_none] at *
  · omega
  · omega
  · refine hA.loopI (fun n s=> ∃(i:Int) (xs:List (List E)),0<=i/\n+i=es.length/\xs.length=es.length/\(∀e∈xs,e.length=8)/\(∀j:Nat,j<i->xs[j]?=es[j]?)/\
        s=⟨[(4,.int i),(3,.bs 0 0 m 8),(2,.zs),(0,.e (.sl es))], [.box (xs.flatten.map .e)]⟩) es.length _
      (Weak.keep (env':= [(4,.int 0),(3,.bs 0 0 m 8),(2,.zs),(0,.e (.sl es))]) ⟨rfl,rfl,rfl,rfl,trivial⟩)
      ⟨0,List.replicate m [E.int 0,E.int 0,E.int 0,E.int 0,E.sl [],E.sl [],E.int 0,E.int 0],by omega,by omega,by simp;omega,by simp,fun j hj=>by omega,by rw [<-buf_zero,hm];rw [hds];rfl⟩ ?_
    rintro n s K ⟨i,xs,h0,h1,h2,h3,h4,rfl⟩ hK
    obtain ⟨ys,hys⟩: ∃ys,ys=xs.flatten.map D.e:=⟨_,rfl⟩
    have hyl:ys.length=xs.length * 8:=by rw [hys,List.length_map,flatten_len h3]
    rw [<-hys]
    by_cases hin:(0:Int)<=i/\i<es.length
    · obtain ⟨⟨K1,T1,M1,W1,Ex1,Exs1,L1,R1⟩,e1,q1⟩:=row_at he hin
      obtain ⟨x1,hx1⟩: ∃x,x=Ex1.map orow:=⟨_,rfl⟩
      obtain ⟨y1,hy1⟩: ∃x,x=Exs1.map orr:=⟨_,rfl⟩
      have e1:es.getD i.toNat []= [E.int K1,E.int T1,E.int M1,E.int W1,E.sl x1,E.sl y1,E.int L1,E.int R1]:=e1.trans (by rw [hx1,hy1])
      have hc:=ok133 K1 T1 M1 W1 Ex1 Exs1 L1 R1 x1 y1 hx1 hy1 (hb2 _ (List.mem_of_getElem? q1)).1 (hb2 _ (List.mem_of_getElem? q1)).2.1 (hb2 _ (List.mem_of_getElem? q1)).2.2
      have hrow0:es[i.toNat]?=some (es.getD i.toNat []):=by
        have:i.toNat<es.length:=by omega
        simp [List.getD,this]
      have hrl:(es.getD i.toNat []).length=8:=hes _ (List.mem_of_getElem? hrow0)
      cbv
      repeat' first | with_reducible rfl | with_reducible refine And.intro ?_ ?_ | ((with_reducible intro hcc);first | (cases hcc;done) | skip) | ((with_reducible first | show goC _ _ _ _ _ _ _ _ | show goOps _ _ _ _ _ | show goD _ _ _ _ _ _);cbv) | ((with_reducible show okWr _ _=_);rfl) | ((with_reducible first | refine callK_f hA hP hc ?_ ?_ ?_);exact rfl;exact rfl;cbv) | ((with_reducible refine hA.row es _ _ ⟨hin,fun row hrow=>?_⟩);rw [e1] at hrow;subst hrow;cbv) | ((with_reducible first | refine hA.fin_pl _ _ _ ?_ | refine hA.len _ _ _ _ _ fun z hz hb=>?_ | refine hA.off _ _ _ _ fun b hb=>?_ | refine hA.rep _ _ _ fun ds m hds hm=>?_ | refine hA.alt _ _ (Or.inl ?_));cbv) | ((with_reducible first | refine hA.st _ _ _ _ _ ⟨?_,fun ds hds=>?_⟩ | refine hA.sapp _ _ _ ⟨?_,fun sl hsl=>?_⟩);rotate_left;cbv) | (simp only [hA.lits];cbv)
      all_goals try simp only [hA.ar,inR,n_cast,Int.ofNat_eq_natCast,Option.getD_some,Option.getD_none] at *
      all_goals first
        | (show _<(m:Int);omega)
        | omega
        | (clear hK h4 he;grind;done)
        | (have hb':b=i.toNat * 8:=by omega
           refine hK _ (n-1) _ (by omega) (Weak.keep (env':= [(4,.int (i+1)),(3,.bs 0 0 m 8),(2,.zs),(0,.e (.sl es))]) ⟨rfl,rfl,rfl,rfl,trivial⟩)
             ⟨i+1,xs.set i.toNat (es.getD i.toNat []),by omega,by omega,by simp [h2],fun e h=>?_,fun j hj=>?_,?_⟩
           · rcases List.mem_or_eq_of_mem_set h with h | rfl
             · exact h3 e h
             · exact hrl
           · by_cases hji:(j:Int)<i
             · rw [List.getElem?_set_ne (show i.toNat≠j by omega)];exact h4 j hji
             · have:j=i.toNat:=by omega
               subst this
               rw [List.getElem?_set_self (show i.toNat<xs.length by omega),hrow0]
           · congr 2
             rw [hds,hys,hb']
             congr 1
             have q:=buf_set (k:=8) (by omega) h3 (i:=i.toNat) (show i.toNat<xs.length by omega) hrl
             rw [e1] at q ⊢
             exact q)
    · have hxe:xs=es:=by
        refine List.ext_getElem? fun j=>?_
        by_cases hj:(j:Int)<i
        · exact h4 j hj
        · rw [List.getElem?_eq_none (by omega),List.getElem?_eq_none (by omega)]
      cbv
      repeat' first | with_reducible rfl | with_reducible refine And.intro ?_ ?_ | ((with_reducible intro hcc);first | (cases hcc;done) | skip) | ((with_reducible first | show goC _ _ _ _ _ _ _ _ | show goOps _ _ _ _ _ | show goD _ _ _ _ _ _);cbv) | ((with_reducible show okWr _ _=_);rfl) | (exfalso;simp only [hA.lt,hA.sub,decide_eq_true_eq,decide_eq_false_iff_not,n_cast] at *;omega) | ((with_reducible refine hA.fin_bs (es:=es) ?_ ?_ hes)) | ((with_reducible first | refine hA.fin_pl _ _ _ ?_ | refine hA.len _ _ _ _ _ fun z hz hb=>?_ | refine hA.off _ _ _ _ fun b hb=>?_ | refine hA.rep _ _ _ fun ds m hds hm=>?_ | refine hA.alt _ _ (Or.inl ?_));cbv) | ((with_reducible first | refine hA.st _ _ _ _ _ ⟨?_,fun ds hds=>?_⟩ | refine hA.sapp _ _ _ ⟨?_,fun sl hsl=>?_⟩);rotate_left;cbv) | (simp only [hA.lits];cbv)
      all_goals try simp only [hA.ar,inR,n_cast,Int.ofNat_eq_natCast,Option.getD_some,Option.getD_none] at *
      all_goals first
        | (rw [hys,hxe];rfl)
        | omega
        | (clear hK h4 he;grind;done)
        | (trace_state;fail))
theorem ok30 (ns:List Fd) (rt:Int) (x:List (List E)) (hx:x=ns.map fdr) (h1:ns.length<=1048576) (h2: ∀d∈ns,d.Ex.length<=1048576/\d.Exs.length<=1048576/\ ∀e∈d.Exs,e.length<=1048576):Plain Try.prog 30 [.agg [.e (.sl x),.int rt]] (.agg [.e (.sl x),.int rt]):=okOf mixed p30 fun A P hA hP=>(by
  have h238:=ok75 ns x hx (by rw [hx,List.length_map];exact h1) h2
  cbv
  repeat' first | with_reducible rfl | with_reducible refine And.intro ?_ ?_ | ((with_reducible intro hcc);first | (cases hcc;done) | skip) | ((with_reducible first | show goC _ _ _ _ _ _ _ _ | show goOps _ _ _ _ _ | show goD _ _ _ _ _ _);cbv) | ((with_reducible show okWr _ _=_);rfl) | ((with_reducible first | refine callK_f hA hP h238 ?_ ?_ ?_);exact rfl;exact rfl;cbv) | ((with_reducible first | refine hA.fin_pl _ _ _ ?_);cbv) | ((with_reducible first | refine hA.st _ _ _ _ _ ⟨?_,fun ds hds=>?_⟩);rotate_left;cbv) | (simp only [hA.lits];cbv)
  all_goals try simp only [hA.ar,inR,n_cast,Int.ofNat_eq_natCast,Option.getD_some,Option.getD_none] at *
  )
set_option maxRecDepth 100000 in
theorem ok138 (K1 T1 M1 W1:Int) (Ex1:List (Int×Int)) (Exs1:List (List (Int×Int))) (L1 R1:Int) (x1 y1:List (List E)) (hx1:x1=Ex1.map orow) (hy1:y1=Exs1.map orr) (K2 T2 M2 W2:Int) (Ex2:List (Int×Int)) (Exs2:List (List (Int×Int))) (L2 R2:Int) (x2 y2:List (List E)) (hx2:x2=Ex2.map orow) (hy2:y2=Exs2.map orr):
    Plain Try.prog 138 [.agg [.int K1,.int T1,.int M1,.int W1,.e (.sl x1),.e (.sl y1),.int L1,.int R1],.agg [.int K2,.int T2,.int M2,.int W2,.e (.sl x2),.e (.sl y2),.int L2,.int R2]] (.bool (decide ((⟨K1,T1,M1,W1,Ex1,Exs1,L1,R1⟩:Fd)=⟨K2,T2,M2,W2,Ex2,Exs2,L2,R2⟩))):=okOf mixed p138 fun A P hA hP=>(by
  have h34:=ok184 Ex1 Ex2 x1 x2 hx1 hx2
  have h320:=ok185 Exs1 Exs2 y1 y2 hy1 hy2
  obtain ⟨c,hc⟩: ∃c,c=decide (Ex1=Ex2):=⟨_,rfl⟩
  rw [<-hc] at h34
  obtain ⟨d,hd⟩: ∃c,c=decide (Exs1=Exs2):=⟨_,rfl⟩
  rw [<-hd] at h320
  obtain ⟨r,hr⟩: ∃r,r=decide ((⟨K1,T1,M1,W1,Ex1,Exs1,L1,R1⟩:Fd)=⟨K2,T2,M2,W2,Ex2,Exs2,L2,R2⟩):=⟨_,rfl⟩
  rw [<-hr]
  have hr2:r=(decide (K1=K2)&&(decide (T1=T2)&&(decide (M1=M2)&&(decide (W1=W2)&&(c&&(d&&(decide (L1=L2)&&decide (R1=R2)))))))):=by rw [hr,hc,hd];simp
  clear hr hc hd
  cbv
  repeat' first | with_reducible rfl | with_reducible refine And.intro ?_ ?_ | ((with_reducible intro hcc);first | (cases hcc;done) | skip) | ((with_reducible first | show goC _ _ _ _ _ _ _ _ | show goOps _ _ _ _ _ | show goD _ _ _ _ _ _);cbv) | ((with_reducible show okWr _ _=_);rfl) | ((with_reducible first | refine callK_f hA hP h34 ?_ ?_ ?_ | refine callK_f hA hP h320 ?_ ?_ ?_);exact rfl;exact rfl;cbv) | ((with_reducible first | refine hA.fin_pl _ _ _ ?_);cbv) | (simp only [hA.lits];cbv)
  all_goals try simp only [hA.ar,inR,n_cast,Int.ofNat_eq_natCast,Option.getD_some,Option.getD_none] at *
  all_goals first | rfl | (clear h34 h320;grind;done) | (clear h34 h320;simp at *;grind;done) | (trace_state;fail))
set_option maxRecDepth 100000 in
theorem ok78 (l l':List (Fd)) (es fs:List (List E)) (he:es=l.map fdr) (hf:fs=l'.map fdr):Plain Try.prog 78 [.e (.sl es),.e (.sl fs)] (.bool (decide (l=l'))):=okOf mixed p78 fun A P hA hP=>(by
  obtain ⟨r,hr⟩: ∃r:Bool,r=decide (l=l'):=⟨_,rfl⟩
  rw [<-hr]
  have hl1:es.length=l.length:=by rw [he];simp
  have hl2:fs.length=l'.length:=by rw [hf];simp
  cbv
  repeat' first | with_reducible rfl | with_reducible refine And.intro ?_ ?_ | ((with_reducible intro hcc);first | (cases hcc;done) | skip) | ((with_reducible first | show goC _ _ _ _ _ _ _ _ | show goOps _ _ _ _ _ | show goD _ _ _ _ _ _);cbv) | ((with_reducible show okWr _ _=_);rfl) | ((with_reducible first | refine hA.fin_pl _ _ _ ?_ | refine hA.len _ _ _ _ _ fun z hz hb=>?_ | refine hA.off _ _ _ _ fun b hb=>?_);cbv) | ((with_reducible first | refine hA.sapp _ _ _ ⟨?_,fun sl hsl=>?_⟩);rotate_left;cbv) | (simp only [hA.lits];cbv)
  all_goals try simp only [hA.ar,inR,n_cast,Int.ofNat_eq_natCast,Option.getD_some,Option.getD_none] at *
  · have:l≠l':=fun e=>by subst e;clear hr;grind
    rw [hr];simp [this]
  · have hzz:es.length=fs.length:=by clear hr;grind
    refine hA.loopI (fun n s=> ∃i:Int,0<=i/\n+i=l.length/\(∀j:Nat,j<i->l[j]?=l'[j]?)/\s=⟨[(5,.int i),(4,.bool false),(0,.e (.sl es)),(1,.e (.sl fs))], []⟩) l.length _ (Weak.keep (env':= [(5,.int 0),(4,.bool false),(0,.e (.sl es)),(1,.e (.sl fs))]) ⟨rfl,rfl,rfl,rfl,trivial⟩) ⟨0,by omega,by omega,fun j hj=>by omega,rfl⟩ ?_
    rintro n s K ⟨i,h0,h1,h2,rfl⟩ hK
    by_cases hin:(0:Int)<=i/\i<es.length
    · have hin2:(0:Int)<=i/\i<fs.length:=by omega
      obtain ⟨⟨K1,T1,M1,W1,Ex1,Exs1,L1,R1⟩,e1,q1⟩:=row_at he hin
      obtain ⟨⟨K2,T2,M2,W2,Ex2,Exs2,L2,R2⟩,e2,q2⟩:=row_at hf hin2
      obtain ⟨x1,hx1⟩: ∃x,x=Ex1.map orow:=⟨_,rfl⟩
      obtain ⟨y1,hy1⟩: ∃x,x=Exs1.map orr:=⟨_,rfl⟩
      have e1:es.getD i.toNat []= [E.int K1,E.int T1,E.int M1,E.int W1,E.sl x1,E.sl y1,E.int L1,E.int R1]:=e1.trans (by rw [hx1,hy1])
      obtain ⟨x2,hx2⟩: ∃x,x=Ex2.map orow:=⟨_,rfl⟩
      obtain ⟨y2,hy2⟩: ∃x,x=Exs2.map orr:=⟨_,rfl⟩
      have e2:fs.getD i.toNat []= [E.int K2,E.int T2,E.int M2,E.int W2,E.sl x2,E.sl y2,E.int L2,E.int R2]:=e2.trans (by rw [hx2,hy2])
      have hc:=ok138 K1 T1 M1 W1 Ex1 Exs1 L1 R1 x1 y1 hx1 hy1 K2 T2 M2 W2 Ex2 Exs2 L2 R2 x2 y2 hx2 hy2
      obtain ⟨c,hcc⟩: ∃c:Bool,c=decide ((⟨K1,T1,M1,W1,Ex1,Exs1,L1,R1⟩:Fd)=⟨K2,T2,M2,W2,Ex2,Exs2,L2,R2⟩):=⟨_,rfl⟩
      rw [<-hcc] at hc
      have c1:c=false->r=false:=fun e=>by
        rw [hr,decide_eq_false_iff_not]
        intro e'
        subst e'
        rw [q1] at q2
        cases q2
        rw [e] at hcc
        simp at hcc
      have c2:c=true->l[i.toNat]?=l'[i.toNat]?:=fun e=>by
        rw [e] at hcc
        rw [q1,q2,of_decide_eq_true hcc.symm]
      clear hcc hr
      cbv
      repeat' first | with_reducible rfl | with_reducible refine And.intro ?_ ?_ | ((with_reducible intro hcc);first | (cases hcc;done) | skip) | ((with_reducible first | show goC _ _ _ _ _ _ _ _ | show goOps _ _ _ _ _ | show goD _ _ _ _ _ _);cbv) | ((with_reducible show okWr _ _=_);rfl) | ((with_reducible first | refine callK_f hA hP hc ?_ ?_ ?_);exact rfl;exact rfl;cbv) | ((with_reducible refine hA.row es _ _ ⟨hin,fun row hrow=>?_⟩);rw [e1] at hrow;subst hrow;cbv) | ((with_reducible refine hA.row fs _ _ ⟨hin2,fun row hrow=>?_⟩);rw [e2] at hrow;subst hrow;cbv) | ((with_reducible first | refine hA.fin_pl _ _ _ ?_ | refine hA.len _ _ _ _ _ fun z hz hb=>?_ | refine hA.off _ _ _ _ fun b hb=>?_);cbv) | ((with_reducible first | refine hA.sapp _ _ _ ⟨?_,fun sl hsl=>?_⟩);rotate_left;cbv) | (simp only [hA.lits];cbv)
      all_goals try simp only [hA.ar,inR,n_cast,Int.ofNat_eq_natCast,Option.getD_some,Option.getD_none] at *
      all_goals first
        | omega
        | (refine hK _ (n-1) _ (by omega) (Weak.gc (env':= [(5,.int (i+1)),(4,.bool false),(0,.e (.sl es)),(1,.e (.sl fs))]) ⟨rfl,rfl,rfl,rfl,trivial⟩ rfl) ⟨i+1,by omega,by omega,fun j hj=>?_,rfl⟩
           by_cases hji:(j:Int)<i
           · exact h2 j hji
           · have:j=i.toNat:=by omega
             rw [this]
             exact c2 (by clear hK h2;grind))
        | (clear hK h2 he hf e1 e2;grind;done)
        | (trace_state;fail)
    · have hll:l=l':=by
        refine List.ext_getElem? fun j=>?_
        by_cases hj:(j:Int)<i
        · exact h2 j hj
        · rw [List.getElem?_eq_none (by omega),List.getElem?_eq_none (by omega)]
      have hr2:r=true:=by rw [hr,hll];simp
      clear hr
      cbv
      repeat' first | with_reducible rfl | with_reducible refine And.intro ?_ ?_ | ((with_reducible intro hcc);first | (cases hcc;done) | skip) | ((with_reducible first | show goC _ _ _ _ _ _ _ _ | show goOps _ _ _ _ _ | show goD _ _ _ _ _ _);cbv) | ((with_reducible show okWr _ _=_);rfl) | (exfalso;simp only [hA.lt,hA.sub,decide_eq_true_eq,decide_eq_false_iff_not,n_cast] at *;omega) | ((with_reducible first | refine hA.fin_pl _ _ _ ?_ | refine hA.len _ _ _ _ _ fun z hz hb=>?_ | refine hA.off _ _ _ _ fun b hb=>?_);cbv) | ((with_reducible first | refine hA.sapp _ _ _ ⟨?_,fun sl hsl=>?_⟩);rotate_left;cbv) | (simp only [hA.lits];cbv)
      all_goals try simp only [hA.ar,inR,n_cast,Int.ofNat_eq_natCast,Option.getD_some,Option.getD_none] at *
      all_goals first
        | (rw [hr2])
        | omega
        | (clear hK h2 hll he hf;grind;done)
        | (trace_state;fail))
theorem ok33 (ns ns':List Fd) (rt rt':Int) (x x':List (List E)) (hx:x=ns.map fdr) (hx':x'=ns'.map fdr):Plain Try.prog 33 [.agg [.e (.sl x),.int rt],.agg [.e (.sl x'),.int rt']] (.bool (decide (ns=ns')&&decide (rt=rt'))):=okOf mixed p33 fun A P hA hP=>(by
  have h240:=ok78 ns ns' x x' hx hx'
  obtain ⟨c,hc⟩: ∃c,c=decide (ns=ns'):=⟨_,rfl⟩
  rw [<-hc] at h240 ⊢
  obtain ⟨d,hd⟩: ∃d,d=(c&&decide (rt=rt')):=⟨_,rfl⟩
  rw [<-hd]
  cbv
  repeat' first | with_reducible rfl | with_reducible refine And.intro ?_ ?_ | ((with_reducible intro hcc);first | (cases hcc;done) | skip) | ((with_reducible first | show goC _ _ _ _ _ _ _ _ | show goOps _ _ _ _ _ | show goD _ _ _ _ _ _);cbv) | ((with_reducible show okWr _ _=_);rfl) | ((with_reducible first | refine callK_f hA hP h240 ?_ ?_ ?_);exact rfl;exact rfl;cbv) | ((with_reducible first | refine hA.fin_pl _ _ _ ?_);cbv) | (simp only [hA.lits];cbv)
  all_goals try simp only [hA.ar,inR,n_cast,Int.ofNat_eq_natCast,Option.getD_some,Option.getD_none] at *
  all_goals first | rfl | (clear h240 hc;grind;done) | (clear h240 hc;simp at *;grind;done) | (trace_state;fail))
end Go.Proofs.Ytfplalbognalkaa.Ab
/- Copies that the laws make, with numbers: expressions, nodes of flat plans, tables. -/
namespace Go.Proofs.Ytfplalbognalkaa.Ab
open Go
def sumN {α:Type} (s:α->Nat):List α->Nat
  | []=>0
  | a::l=>s a+sumN s l
def numL {α β:Type} (f:Nat->α->β) (s:α->Nat):Nat->List α->List β
  | _, []=> []
  | q,a::l=>f q a::numL f s (q+s a) l
theorem numL_len {α β:Type} (f:Nat->α->β) (s:α->Nat): ∀(q:Nat) (l:List α),(numL f s q l).length=l.length
  | _, []=>rfl
  | q,a::l=>by simp [numL,numL_len f s _ l]
theorem numL_get {α β:Type} (f:Nat->α->β) (s:α->Nat): ∀(q:Nat) (l:List α) (i:Nat),(numL f s q l)[i]?=l[i]?.map fun a=>f (q+sumN s (l.take i)) a
  | _, [],i=>by simp [numL]
  | q,a::l,0=>by simp [numL,sumN]
  | q,a::l,i+1=>by
    rw [numL,List.getElem?_cons_succ,List.getElem?_cons_succ,numL_get f s _ l i,List.take_succ_cons]
    simp only [sumN,Nat.add_assoc]
theorem sumN_take {α:Type} {s:α->Nat} : ∀ {l:List α} {i:Nat} {a:α},l[i]?=some a->sumN s (l.take (i+1))=sumN s (l.take i)+s a
  | [],i,a,h=>by simp at h
  | b::l,0,a,h=>by
    simp at h
    subst h
    simp [sumN]
  | b::l,i+1,a,h=>by
    rw [List.take_succ_cons,List.take_succ_cons]
    simp only [sumN]
    rw [sumN_take (i:=i) (a:=a) (by simpa using h)]
    omega
theorem agg_side {az ds:List E} {q0 q1:Nat} :Side (fun _=> [.agg (az.map .e)]) (fun _=> [.ids q0]) (fun _=> .agg (ds.map .e)) (fun _=> [.ids q1]):=
  ⟨fun t=>by simp only [rens,D.ren,rens_e],by simp only [lts,D.lt,lts_e];rfl,fun t=>rfl,by intro o ho;rw [List.mem_singleton] at ho;subst ho;rfl,fun t=>by simp only [D.ren,rens_e],fun t=>rfl,Nat.le_refl _⟩
set_option maxRecDepth 100000 in
set_option maxHeartbeats 1000000 in
theorem n32 (q0:Nat) (l:List (Int×Int)) (es:List (List E)) (he:es=l.map orow) (hlen:es.length<=1048576):
    Proc Try.prog 176 (fun _=> [.e (.sl es)]) (fun _=> [.ids q0]) (fun _=> .e (.fs (q0+sumN (fun _=>0) l) ((numL (fun _ p=>p) (fun _=>0) q0 l).map orow))) (fun _=> [.ids (q0+sumN (fun _=>0) l+1)]):=procOf mixed p176 (NS.tok_side (es:= [.sl es])) fun A P hA hP=>(by
  have hl1:es.length=l.length:=by rw [he];simp
  obtain ⟨ts,hts⟩: ∃ts,ts=(numL (fun _ p=>p) (fun _=>0) q0 l).map orow:=⟨_,rfl⟩
  have htl:ts.length=es.length:=by rw [hts,hl1,List.length_map,numL_len]
  have htk: ∀e∈ts,e.length=2:=by
    rw [hts]
    intro e h
    obtain ⟨p,_,rfl⟩:=List.mem_map.1 h
    rfl
  obtain ⟨qe,hqe⟩: ∃q,q=q0+sumN (fun _=>0) l:=⟨_,rfl⟩
  rw [<-hts,<-hqe]
  cbv
  repeat' first | with_reducible rfl | with_reducible refine And.intro ?_ ?_ | ((with_reducible intro hcc);first | (cases hcc;done) | skip) | ((with_reducible first | show goC _ _ _ _ _ _ _ _ | show goOps _ _ _ _ _ | show goD _ _ _ _ _ _);cbv) | ((with_reducible show okWr _ _=_);rfl) | ((with_reducible first | refine hA.fin_pl _ _ _ ?_ | refine hA.len _ _ _ _ _ fun z hz hb=>?_ | refine hA.off _ _ _ _ fun b hb=>?_ | refine hA.rep _ _ _ fun ds m hds hm=>?_ | refine hA.alt _ _ (Or.inl ?_));cbv) | ((with_reducible first | refine hA.st _ _ _ _ _ ⟨?_,fun ds hds=>?_⟩ | refine hA.sapp _ _ _ ⟨?_,fun sl hsl=>?_⟩);rotate_left;cbv) | (simp only [hA.lits];cbv)
  all_goals try simp only [hA.ar,inR,n_cast,Int.ofNat_eq_natCast,Option.getD_some,Option.getD_none] at *
  · omega
  · omega
  · refine hA.loopI (fun n s=> ∃(i:Int) (qi:Nat) (xs:List (List E)),0<=i/\n+i=es.length/\qi=q0+sumN (fun _=>0) (l.take i.toNat)/\xs.length=es.length/\(∀e∈xs,e.length=2)/\(∀j:Nat,j<i->xs[j]?=ts[j]?)/\
        s=⟨[(4,.int i),(3,.bs 1 0 m 2),(2,.zs),(0,.e (.sl es))], [.ids qi,.box (xs.flatten.map .e)]⟩) es.length _
      (Weak.keep (env':= [(4,.int 0),(3,.bs 1 0 m 2),(2,.zs),(0,.e (.sl es))]) ⟨rfl,rfl,rfl,rfl,trivial⟩)
      ⟨0,q0,List.replicate m [E.int 0,E.int 0],by omega,by omega,by simp [sumN],by simp;omega,by simp,fun j hj=>by omega,by rw [<-buf_zero,hm];rw [hds];rfl⟩ ?_
    rintro n s K ⟨i,qi,xs,h0,h1,hq,h2,h3,h4,rfl⟩ hK
    obtain ⟨ys,hys⟩: ∃ys,ys=xs.flatten.map D.e:=⟨_,rfl⟩
    have hyl:ys.length=xs.length * 2:=by rw [hys,List.length_map,flatten_len h3]
    rw [<-hys]
    by_cases hin:(0:Int)<=i/\i<es.length
    · obtain ⟨⟨k1,v1⟩,e1,q1⟩:=row_at he hin
      have hmem:=List.mem_of_getElem? q1
      have htk1:=sumN_take (s:=(fun _=>0)) q1
      have e1:es.getD i.toNat []= [E.int k1,E.int v1]:=e1
      obtain ⟨qj,hqj⟩: ∃q,q=qi:=⟨_,rfl⟩
      have hrow0:ts[i.toNat]?=some [E.int k1,E.int v1]:=by
        rw [hts,List.getElem?_map,numL_get,q1]
        try rw [<-hq]
        simp only [Option.map_some]
        try rfl
      clear hts
      cbv
      repeat' first | with_reducible rfl | with_reducible refine And.intro ?_ ?_ | ((with_reducible intro hcc);first | (cases hcc;done) | skip) | ((with_reducible first | show goC _ _ _ _ _ _ _ _ | show goOps _ _ _ _ _ | show goD _ _ _ _ _ _);cbv) | ((with_reducible show okWr _ _=_);rfl) | ((with_reducible first | refine callK_f hA hP (ok195 _ _) ?_ ?_ ?_);exact rfl;exact rfl;cbv) | ((with_reducible refine hA.row es _ _ ⟨hin,fun row hrow=>?_⟩);rw [e1] at hrow;subst hrow;cbv) | ((with_reducible first | refine hA.fin_pl _ _ _ ?_ | refine hA.len _ _ _ _ _ fun z hz hb=>?_ | refine hA.off _ _ _ _ fun b hb=>?_ | refine hA.rep _ _ _ fun ds m hds hm=>?_ | refine hA.alt _ _ (Or.inl ?_));cbv) | ((with_reducible first | refine hA.st _ _ _ _ _ ⟨?_,fun ds hds=>?_⟩ | refine hA.sapp _ _ _ ⟨?_,fun sl hsl=>?_⟩);rotate_left;cbv) | (simp only [hA.lits];cbv)
      all_goals try simp only [hA.ar,inR,n_cast,Int.ofNat_eq_natCast,Option.getD_some,Option.getD_none] at *
      all_goals first
        | (show _<(m:Int);omega)
        | omega
        | (clear hK h4 he;grind;done)
        | (have hb':b=i.toNat * 2:=by omega
           refine hK _ (n-1) _ (by omega) (Weak.keep (env':= [(4,.int (i+1)),(3,.bs 1 0 m 2),(2,.zs),(0,.e (.sl es))]) ⟨rfl,rfl,rfl,rfl,trivial⟩)
             ⟨i+1,qi,xs.set i.toNat [E.int k1,E.int v1],by omega,by omega,by rw [show (i+1).toNat=i.toNat+1 by omega,htk1];omega,by simp [h2],fun e h=>?_,fun j hj=>?_,?_⟩
           · rcases List.mem_or_eq_of_mem_set h with h | rfl
             · exact h3 e h
             · rfl
           · by_cases hji:(j:Int)<i
             · rw [List.getElem?_set_ne (show i.toNat≠j by omega)];exact h4 j hji
             · have:j=i.toNat:=by omega
               subst this
               rw [List.getElem?_set_self (show i.toNat<xs.length by omega),hrow0]
           · congr 3
             rw [hds,hys,hb']
             congr 1
             exact buf_set (k:=2) (by omega) h3 (i:=i.toNat) (show i.toNat<xs.length by omega) (r:= [E.int k1,E.int v1]) rfl)
    · have hxe:xs=ts:=by
        refine List.ext_getElem? fun j=>?_
        by_cases hj:(j:Int)<i
        · exact h4 j hj
        · rw [List.getElem?_eq_none (by omega),List.getElem?_eq_none (by omega)]
      have hqq:qi=qe:=by rw [hq,hqe,List.take_of_length_le (by omega)]
      subst hqq
      cbv
      repeat' first | with_reducible rfl | with_reducible refine And.intro ?_ ?_ | ((with_reducible intro hcc);first | (cases hcc;done) | skip) | ((with_reducible first | show goC _ _ _ _ _ _ _ _ | show goOps _ _ _ _ _ | show goD _ _ _ _ _ _);cbv) | ((with_reducible show okWr _ _=_);rfl) | (exfalso;simp only [hA.lt,hA.sub,decide_eq_true_eq,decide_eq_false_iff_not,n_cast] at *;omega) | ((with_reducible refine hA.finv _ _ _ _ _ (finv_bsFs (t:=0) (es:=ts) rfl ?_ ?_ htk))) | ((with_reducible first | refine hA.fin_pl _ _ _ ?_ | refine hA.len _ _ _ _ _ fun z hz hb=>?_ | refine hA.off _ _ _ _ fun b hb=>?_ | refine hA.rep _ _ _ fun ds m hds hm=>?_ | refine hA.alt _ _ (Or.inl ?_));cbv) | ((with_reducible first | refine hA.st _ _ _ _ _ ⟨?_,fun ds hds=>?_⟩ | refine hA.sapp _ _ _ ⟨?_,fun sl hsl=>?_⟩);rotate_left;cbv) | (simp only [hA.lits];cbv)
      all_goals try simp only [hA.ar,inR,n_cast,Int.ofNat_eq_natCast,Option.getD_some,Option.getD_none] at *
      all_goals first
        | (rw [hys,hxe];rfl)
        | omega
        | (clear hK h4 he;grind;done)
        | (trace_state;fail))
theorem sum0 {α:Type} : ∀l:List α,sumN (fun _=>0) l=0
  | []=>rfl
  | _::l=>by simp only [sumN,sum0 l]
theorem num0 {α:Type} (q:Nat): ∀l:List α,numL (fun _ p=>p) (fun _=>0) q l=l
  | []=>rfl
  | a::l=>by rw [numL,Nat.add_zero,num0 q l]
theorem m32 (q0:Nat) (l:List (Int×Int)) (es:List (List E)) (he:es=l.map orow) (hlen:es.length<=1048576):Proc Try.prog 176 (fun _=> [.e (.sl es)]) (fun _=> [.ids q0]) (fun _=> .e (eX (q0,l))) (fun _=> [.ids (q0+1)]):=by
  have:=n32 q0 l es he hlen
  rw [sum0,num0,Nat.add_zero] at this
  exact this
def nX (q:Nat) (l:List (Int×Int)):Nx:=(q,l)
def one1 {α:Type} (_:α):Nat:=1
theorem sum1 {α:Type} : ∀l:List α,sumN one1 l=l.length
  | []=>rfl
  | _::l=>by simp only [sumN,sum1 l,one1,List.length_cons];omega
set_option maxRecDepth 100000 in
set_option maxHeartbeats 1000000 in
theorem n314 (q0:Nat) (l:List (List (Int×Int))) (es:List (List E)) (he:es=l.map orr) (hlen:es.length<=1048576) (hb2: ∀d∈l,d.length<=1048576):
    Proc Try.prog 177 (fun _=> [.e (.sl es)]) (fun _=> [.ids q0]) (fun _=> .e (.fs (q0+sumN one1 l) ((numL nX one1 q0 l).map xrow))) (fun _=> [.ids (q0+sumN one1 l+1)]):=procOf mixed p177 (NS.tok_side (es:= [.sl es])) fun A P hA hP=>(by
  have hl1:es.length=l.length:=by rw [he];simp
  obtain ⟨ts,hts⟩: ∃ts,ts=(numL nX one1 q0 l).map xrow:=⟨_,rfl⟩
  have htl:ts.length=es.length:=by rw [hts,hl1,List.length_map,numL_len]
  have htk: ∀e∈ts,e.length=1:=by
    rw [hts]
    intro e h
    obtain ⟨p,_,rfl⟩:=List.mem_map.1 h
    rfl
  obtain ⟨qe,hqe⟩: ∃q,q=q0+sumN one1 l:=⟨_,rfl⟩
  rw [<-hts,<-hqe]
  cbv
  repeat' first | with_reducible rfl | with_reducible refine And.intro ?_ ?_ | ((with_reducible intro hcc);first | (cases hcc;done) | skip) | ((with_reducible first | show goC _ _ _ _ _ _ _ _ | show goOps _ _ _ _ _ | show goD _ _ _ _ _ _);cbv) | ((with_reducible show okWr _ _=_);rfl) | ((with_reducible first | refine hA.fin_pl _ _ _ ?_ | refine hA.len _ _ _ _ _ fun z hz hb=>?_ | refine hA.off _ _ _ _ fun b hb=>?_ | refine hA.rep _ _ _ fun ds m hds hm=>?_ | refine hA.alt _ _ (Or.inl ?_));cbv) | ((with_reducible first | refine hA.st _ _ _ _ _ ⟨?_,fun ds hds=>?_⟩ | refine hA.sapp _ _ _ ⟨?_,fun sl hsl=>?_⟩);rotate_left;cbv) | (simp only [hA.lits];cbv)
  all_goals try simp only [hA.ar,inR,n_cast,Int.ofNat_eq_natCast,Option.getD_some,Option.getD_none] at *
  · omega
  · omega
  · refine hA.loopI (fun n s=> ∃(i:Int) (qi:Nat) (xs:List (List E)),0<=i/\n+i=es.length/\qi=q0+sumN one1 (l.take i.toNat)/\xs.length=es.length/\(∀e∈xs,e.length=1)/\(∀j:Nat,j<i->xs[j]?=ts[j]?)/\
        s=⟨[(4,.int i),(3,.bs 1 0 m 1),(2,.zs),(0,.e (.sl es))], [.ids qi,.box (xs.flatten.map .e)]⟩) es.length _
      (Weak.keep (env':= [(4,.int 0),(3,.bs 1 0 m 1),(2,.zs),(0,.e (.sl es))]) ⟨rfl,rfl,rfl,rfl,trivial⟩)
      ⟨0,q0,List.replicate m [E.sl []],by omega,by omega,by simp [sumN],by simp;omega,by simp,fun j hj=>by omega,by rw [<-buf_zero,hm];rw [hds];rfl⟩ ?_
    rintro n s K ⟨i,qi,xs,h0,h1,hq,h2,h3,h4,rfl⟩ hK
    obtain ⟨ys,hys⟩: ∃ys,ys=xs.flatten.map D.e:=⟨_,rfl⟩
    have hyl:ys.length=xs.length * 1:=by rw [hys,List.length_map,flatten_len h3]
    rw [<-hys]
    by_cases hin:(0:Int)<=i/\i<es.length
    · obtain ⟨r1,e1,q1⟩:=row_at he hin
      have hmem:=List.mem_of_getElem? q1
      have htk1:=sumN_take (s:=one1) q1
      obtain ⟨x1,hx1⟩: ∃x,x=r1.map orow:=⟨_,rfl⟩
      have e1:es.getD i.toNat []= [E.sl x1]:=e1.trans (by rw [hx1])
      obtain ⟨qj,hqj⟩: ∃q,q=qi+1:=⟨_,rfl⟩
      have hs1:one1 r1=1:=rfl
      obtain ⟨X1,hX1⟩: ∃X,X=eX (qi,r1):=⟨_,rfl⟩
      have hc:Proc Try.prog 176 (fun _=> [.e (.sl x1)]) (fun _=> [.ids qi]) (fun _=> .e X1) (fun _=> [.ids qj]):=by
        rw [hX1,hqj]
        exact m32 qi r1 x1 hx1 (by rw [hx1,List.length_map];exact hb2 r1 hmem)
      have hrow0:ts[i.toNat]?=some [X1]:=by
        rw [hts,List.getElem?_map,numL_get,q1]
        try rw [<-hq]
        simp only [Option.map_some,nX,xrow,hX1]
        try rfl
      clear hts
      cbv
      repeat' first | with_reducible rfl | with_reducible refine And.intro ?_ ?_ | ((with_reducible intro hcc);first | (cases hcc;done) | skip) | ((with_reducible first | show goC _ _ _ _ _ _ _ _ | show goOps _ _ _ _ _ | show goD _ _ _ _ _ _);cbv) | ((with_reducible show okWr _ _=_);rfl) | ((with_reducible show A.call _ _ _ _ _ 176 _ _ _);have hc:=hc;refine callK_pr hA hP [0] (by rfl) (by exact ⟨rfl,trivial⟩) (Wks.refl _) ?_ (fun _ _=>hc) hc.side;cbv) | ((with_reducible refine hA.row es _ _ ⟨hin,fun row hrow=>?_⟩);rw [e1] at hrow;subst hrow;cbv) | ((with_reducible first | refine hA.fin_pl _ _ _ ?_ | refine hA.len _ _ _ _ _ fun z hz hb=>?_ | refine hA.off _ _ _ _ fun b hb=>?_ | refine hA.rep _ _ _ fun ds m hds hm=>?_ | refine hA.alt _ _ (Or.inl ?_));cbv) | ((with_reducible first | refine hA.st _ _ _ _ _ ⟨?_,fun ds hds=>?_⟩ | refine hA.sapp _ _ _ ⟨?_,fun sl hsl=>?_⟩);rotate_left;cbv) | (simp only [hA.lits];cbv)
      all_goals try simp only [hA.ar,inR,n_cast,Int.ofNat_eq_natCast,Option.getD_some,Option.getD_none] at *
      all_goals first
        | (show _<(m:Int);omega)
        | omega
        | (clear hK h4 he;grind;done)
        | (have hb':b=i.toNat * 1:=by omega
           refine hK _ (n-1) _ (by omega) (Weak.keep (env':= [(4,.int (i+1)),(3,.bs 1 0 m 1),(2,.zs),(0,.e (.sl es))]) ⟨rfl,rfl,rfl,rfl,trivial⟩)
             ⟨i+1,qj,xs.set i.toNat [X1],by omega,by omega,by rw [show (i+1).toNat=i.toNat+1 by omega,htk1];omega,by simp [h2],fun e h=>?_,fun j hj=>?_,?_⟩
           · rcases List.mem_or_eq_of_mem_set h with h | rfl
             · exact h3 e h
             · rfl
           · by_cases hji:(j:Int)<i
             · rw [List.getElem?_set_ne (show i.toNat≠j by omega)];exact h4 j hji
             · have:j=i.toNat:=by omega
               subst this
               rw [List.getElem?_set_self (show i.toNat<xs.length by omega),hrow0]
           · congr 3
             rw [hds,hys,hb']
             congr 1
             exact buf_set (k:=1) (by omega) h3 (i:=i.toNat) (show i.toNat<xs.length by omega) (r:= [X1]) rfl)
    · have hxe:xs=ts:=by
        refine List.ext_getElem? fun j=>?_
        by_cases hj:(j:Int)<i
        · exact h4 j hj
        · rw [List.getElem?_eq_none (by omega),List.getElem?_eq_none (by omega)]
      have hqq:qi=qe:=by rw [hq,hqe,List.take_of_length_le (by omega)]
      subst hqq
      cbv
      repeat' first | with_reducible rfl | with_reducible refine And.intro ?_ ?_ | ((with_reducible intro hcc);first | (cases hcc;done) | skip) | ((with_reducible first | show goC _ _ _ _ _ _ _ _ | show goOps _ _ _ _ _ | show goD _ _ _ _ _ _);cbv) | ((with_reducible show okWr _ _=_);rfl) | (exfalso;simp only [hA.lt,hA.sub,decide_eq_true_eq,decide_eq_false_iff_not,n_cast] at *;omega) | ((with_reducible refine hA.finv _ _ _ _ _ (finv_bsFs (t:=0) (es:=ts) rfl ?_ ?_ htk))) | ((with_reducible first | refine hA.fin_pl _ _ _ ?_ | refine hA.len _ _ _ _ _ fun z hz hb=>?_ | refine hA.off _ _ _ _ fun b hb=>?_ | refine hA.rep _ _ _ fun ds m hds hm=>?_ | refine hA.alt _ _ (Or.inl ?_));cbv) | ((with_reducible first | refine hA.st _ _ _ _ _ ⟨?_,fun ds hds=>?_⟩ | refine hA.sapp _ _ _ ⟨?_,fun sl hsl=>?_⟩);rotate_left;cbv) | (simp only [hA.lits];cbv)
      all_goals try simp only [hA.ar,inR,n_cast,Int.ofNat_eq_natCast,Option.getD_some,Option.getD_none] at *
      all_goals first
        | (rw [hys,hxe];rfl)
        | omega
        | (clear hK h4 he;grind;done)
        | (trace_state;fail))
def nXs (q:Nat) (l:List (List (Int×Int))):Nxs:=(q+l.length,numL nX one1 q l)
theorem m314 (q0:Nat) (l:List (List (Int×Int))) (es:List (List E)) (he:es=l.map orr) (hlen:es.length<=1048576) (hb2: ∀d∈l,d.length<=1048576):Proc Try.prog 177 (fun _=> [.e (.sl es)]) (fun _=> [.ids q0]) (fun _=> .e (eXs (nXs q0 l))) (fun _=> [.ids (q0+l.length+1)]):=by
  have:=n314 q0 l es he hlen hb2
  rw [sum1] at this
  exact this
def nF (q:Nat) (d:Fd):Nf:=⟨d.K,d.T,d.M,d.W,nX q d.Ex,nXs (q+1) d.Exs,d.L,d.R⟩
def sF (d:Fd):Nat:=d.Exs.length+2
set_option maxRecDepth 100000 in
theorem m283 (q0:Nat) (d:Fd) (x1 y1:List (List E)) (hx1:x1=d.Ex.map orow) (hy1:y1=d.Exs.map orr) (h1:d.Ex.length<=1048576) (h2:d.Exs.length<=1048576) (h3: ∀e∈d.Exs,e.length<=1048576):
    Proc Try.prog 133 (fun _=> [.agg ([E.int d.K,E.int d.T,E.int d.M,E.int d.W,E.sl x1,E.sl y1,E.int d.L,E.int d.R].map .e)]) (fun _=> [.ids q0]) (fun _=> .agg ((nfr (nF q0 d)).map .e)) (fun _=> [.ids (q0+sF d)]):=procOf mixed p133 agg_side fun A P hA hP=>(by
  obtain ⟨K1,T1,M1,W1,Ex1,Exs1,L1,R1⟩:=d
  have h32:=m32 q0 Ex1 x1 hx1 (by rw [hx1,List.length_map];exact h1)
  have h314:=m314 (q0+1) Exs1 y1 hy1 (by rw [hy1,List.length_map];exact h2) h3
  obtain ⟨X1,hX1⟩: ∃X,X=eX (q0,Ex1):=⟨_,rfl⟩
  obtain ⟨X2,hX2⟩: ∃X,X=eXs (nXs (q0+1) Exs1):=⟨_,rfl⟩
  obtain ⟨q1,hq1⟩: ∃q,q=q0+1:=⟨_,rfl⟩
  obtain ⟨q2,hq2⟩: ∃q,q=q1+Exs1.length+1:=⟨_,rfl⟩
  have hr:(nfr (nF q0 ⟨K1,T1,M1,W1,Ex1,Exs1,L1,R1⟩)).map D.e= [.int K1,.int T1,.int M1,.int W1,.e X1,.e X2,.int L1,.int R1]:=by
    simp only [nF,nfr,nX,List.map_cons,List.map_nil,hX1,hX2]
  have hs:q0+sF ⟨K1,T1,M1,W1,Ex1,Exs1,L1,R1⟩=q2:=by rw [hq2,hq1];simp only [sF];omega
  rw [hr,hs]
  rw [<-hX1,<-hq1] at h32
  rw [<-hX2,<-hq1,<-hq2] at h314
  clear hr hs hX1 hX2 hq1 hq2
  cbv
  repeat' first | with_reducible rfl | with_reducible refine And.intro ?_ ?_ | ((with_reducible intro hcc);first | (cases hcc;done) | skip) | ((with_reducible first | show goC _ _ _ _ _ _ _ _ | show goOps _ _ _ _ _ | show goD _ _ _ _ _ _);cbv) | ((with_reducible show okWr _ _=_);rfl) | ((with_reducible show A.call _ _ _ _ _ 176 _ _ _);have hc:=h32;refine callK_pr hA hP [0] (by rfl) (by exact ⟨rfl,trivial⟩) (Wks.refl _) ?_ (fun _ _=>hc) hc.side;cbv) | ((with_reducible show A.call _ _ _ _ _ 177 _ _ _);have hc:=h314;refine callK_pr hA hP [0] (by rfl) (by exact ⟨rfl,trivial⟩) (Wks.refl _) ?_ (fun _ _=>hc) hc.side;cbv) | ((with_reducible refine hA.finv _ _ _ _ _ (finv_tok (t:=0) rfl ?_ ?_))) | ((with_reducible first | refine hA.fin_pl _ _ _ ?_);cbv) | ((with_reducible first | refine hA.st _ _ _ _ _ ⟨?_,fun ds hds=>?_⟩);rotate_left;cbv) | (simp only [hA.lits];cbv)
  all_goals try simp only [hA.ar,inR,n_cast,Int.ofNat_eq_natCast,Option.getD_some,Option.getD_none] at *
  all_goals first
    | rfl
    | (trace_state;fail))
set_option maxRecDepth 100000 in
set_option maxHeartbeats 1000000 in
theorem n238 (q0:Nat) (l:List (Fd)) (es:List (List E)) (he:es=l.map fdr) (hlen:es.length<=1048576) (hb2: ∀d∈l,d.Ex.length<=1048576/\d.Exs.length<=1048576/\ ∀e∈d.Exs,e.length<=1048576):
    Proc Try.prog 75 (fun _=> [.e (.sl es)]) (fun _=> [.ids q0]) (fun _=> .e (.fs (q0+sumN sF l) ((numL nF sF q0 l).map nfr))) (fun _=> [.ids (q0+sumN sF l+1)]):=procOf mixed p75 (NS.tok_side (es:= [.sl es])) fun A P hA hP=>(by
  have hl1:es.length=l.length:=by rw [he];simp
  obtain ⟨ts,hts⟩: ∃ts,ts=(numL nF sF q0 l).map nfr:=⟨_,rfl⟩
  have htl:ts.length=es.length:=by rw [hts,hl1,List.length_map,numL_len]
  have htk: ∀e∈ts,e.length=8:=by
    rw [hts]
    intro e h
    obtain ⟨p,_,rfl⟩:=List.mem_map.1 h
    rfl
  obtain ⟨qe,hqe⟩: ∃q,q=q0+sumN sF l:=⟨_,rfl⟩
  rw [<-hts,<-hqe]
  cbv
  repeat' first | with_reducible rfl | with_reducible refine And.intro ?_ ?_ | ((with_reducible intro hcc);first | (cases hcc;done) | skip) | ((with_reducible first | show goC _ _ _ _ _ _ _ _ | show goOps _ _ _ _ _ | show goD _ _ _ _ _ _);cbv) | ((with_reducible show okWr _ _=_);rfl) | ((with_reducible first | refine hA.fin_pl _ _ _ ?_ | refine hA.len _ _ _ _ _ fun z hz hb=>?_ | refine hA.off _ _ _ _ fun b hb=>?_ | refine hA.rep _ _ _ fun ds m hds hm=>?_ | refine hA.alt _ _ (Or.inl ?_));cbv) | ((with_reducible first | refine hA.st _ _ _ _ _ ⟨?_,fun ds hds=>?_⟩ | refine hA.sapp _ _ _ ⟨?_,fun sl hsl=>?_⟩);rotate_left;cbv) | (simp only [hA.lits];cbv)
  all_goals try simp only [hA.ar,inR,n_cast,Int.ofNat_eq_natCast,Option.getD_some,Option.getD_none] at *
  · omega
  · omega
  · refine hA.loopI (fun n s=> ∃(i:Int) (qi:Nat) (xs:List (List E)),0<=i/\n+i=es.length/\qi=q0+sumN sF (l.take i.toNat)/\xs.length=es.length/\(∀e∈xs,e.length=8)/\(∀j:Nat,j<i->xs[j]?=ts[j]?)/\
        s=⟨[(4,.int i),(3,.bs 1 0 m 8),(2,.zs),(0,.e (.sl es))], [.ids qi,.box (xs.flatten.map .e)]⟩) es.length _
      (Weak.keep (env':= [(4,.int 0),(3,.bs 1 0 m 8),(2,.zs),(0,.e (.sl es))]) ⟨rfl,rfl,rfl,rfl,trivial⟩)
      ⟨0,q0,List.replicate m [E.int 0,E.int 0,E.int 0,E.int 0,E.sl [],E.sl [],E.int 0,E.int 0],by omega,by omega,by simp [sumN],by simp;omega,by simp,fun j hj=>by omega,by rw [<-buf_zero,hm];rw [hds];rfl⟩ ?_
    rintro n s K ⟨i,qi,xs,h0,h1,hq,h2,h3,h4,rfl⟩ hK
    obtain ⟨ys,hys⟩: ∃ys,ys=xs.flatten.map D.e:=⟨_,rfl⟩
    have hyl:ys.length=xs.length * 8:=by rw [hys,List.length_map,flatten_len h3]
    rw [<-hys]
    by_cases hin:(0:Int)<=i/\i<es.length
    · obtain ⟨⟨K1,T1,M1,W1,Ex1,Exs1,L1,R1⟩,e1,q1⟩:=row_at he hin
      have hmem:=List.mem_of_getElem? q1
      have htk1:=sumN_take (s:=sF) q1
      obtain ⟨x1,hx1⟩: ∃x,x=Ex1.map orow:=⟨_,rfl⟩
      obtain ⟨y1,hy1⟩: ∃x,x=Exs1.map orr:=⟨_,rfl⟩
      have e1:es.getD i.toNat []= [E.int K1,E.int T1,E.int M1,E.int W1,E.sl x1,E.sl y1,E.int L1,E.int R1]:=e1.trans (by rw [hx1,hy1])
      obtain ⟨qj,hqj⟩: ∃q,q=qi+sF ⟨K1,T1,M1,W1,Ex1,Exs1,L1,R1⟩:=⟨_,rfl⟩
      obtain ⟨X1,hX1⟩: ∃X,X=eX (qi,Ex1):=⟨_,rfl⟩
      obtain ⟨X2,hX2⟩: ∃X,X=eXs (nXs (qi+1) Exs1):=⟨_,rfl⟩
      have hr:nfr (nF qi ⟨K1,T1,M1,W1,Ex1,Exs1,L1,R1⟩)= [E.int K1,E.int T1,E.int M1,E.int W1,X1,X2,E.int L1,E.int R1]:=by
        simp only [nF,nfr,nX,hX1,hX2]
      have hc:Proc Try.prog 133 (fun _=> [.agg ([E.int K1,E.int T1,E.int M1,E.int W1,E.sl x1,E.sl y1,E.int L1,E.int R1].map .e)]) (fun _=> [.ids qi]) (fun _=> .agg (([E.int K1,E.int T1,E.int M1,E.int W1,X1,X2,E.int L1,E.int R1]:List E).map .e)) (fun _=> [.ids qj]):=by
        rw [<-hr,hqj]
        exact m283 qi ⟨K1,T1,M1,W1,Ex1,Exs1,L1,R1⟩ x1 y1 hx1 hy1 (hb2 _ hmem).1 (hb2 _ hmem).2.1 (hb2 _ hmem).2.2
      have hrow0:ts[i.toNat]?=some [E.int K1,E.int T1,E.int M1,E.int W1,X1,X2,E.int L1,E.int R1]:=by
        rw [hts,List.getElem?_map,numL_get,q1]
        try rw [<-hq]
        simp only [Option.map_some,hr]
        try rfl
      clear hts
      cbv
      repeat' first | with_reducible rfl | with_reducible refine And.intro ?_ ?_ | ((with_reducible intro hcc);first | (cases hcc;done) | skip) | ((with_reducible first | show goC _ _ _ _ _ _ _ _ | show goOps _ _ _ _ _ | show goD _ _ _ _ _ _);cbv) | ((with_reducible show okWr _ _=_);rfl) | ((with_reducible show A.call _ _ _ _ _ 133 _ _ _);have hc:=hc;refine callK_pr hA hP [0] (by rfl) (by exact ⟨rfl,trivial⟩) (Wks.refl _) ?_ (fun _ _=>hc) hc.side;cbv) | ((with_reducible refine hA.row es _ _ ⟨hin,fun row hrow=>?_⟩);rw [e1] at hrow;subst hrow;cbv) | ((with_reducible first | refine hA.fin_pl _ _ _ ?_ | refine hA.len _ _ _ _ _ fun z hz hb=>?_ | refine hA.off _ _ _ _ fun b hb=>?_ | refine hA.rep _ _ _ fun ds m hds hm=>?_ | refine hA.alt _ _ (Or.inl ?_));cbv) | ((with_reducible first | refine hA.st _ _ _ _ _ ⟨?_,fun ds hds=>?_⟩ | refine hA.sapp _ _ _ ⟨?_,fun sl hsl=>?_⟩);rotate_left;cbv) | (simp only [hA.lits];cbv)
      all_goals try simp only [hA.ar,inR,n_cast,Int.ofNat_eq_natCast,Option.getD_some,Option.getD_none] at *
      all_goals first
        | (show _<(m:Int);omega)
        | omega
        | (clear hK h4 he;grind;done)
        | (have hb':b=i.toNat * 8:=by omega
           refine hK _ (n-1) _ (by omega) (Weak.keep (env':= [(4,.int (i+1)),(3,.bs 1 0 m 8),(2,.zs),(0,.e (.sl es))]) ⟨rfl,rfl,rfl,rfl,trivial⟩)
             ⟨i+1,qj,xs.set i.toNat [E.int K1,E.int T1,E.int M1,E.int W1,X1,X2,E.int L1,E.int R1],by omega,by omega,by rw [show (i+1).toNat=i.toNat+1 by omega,htk1];omega,by simp [h2],fun e h=>?_,fun j hj=>?_,?_⟩
           · rcases List.mem_or_eq_of_mem_set h with h | rfl
             · exact h3 e h
             · rfl
           · by_cases hji:(j:Int)<i
             · rw [List.getElem?_set_ne (show i.toNat≠j by omega)];exact h4 j hji
             · have:j=i.toNat:=by omega
               subst this
               rw [List.getElem?_set_self (show i.toNat<xs.length by omega),hrow0]
           · congr 3
             rw [hds,hys,hb']
             congr 1
             exact buf_set (k:=8) (by omega) h3 (i:=i.toNat) (show i.toNat<xs.length by omega) (r:= [E.int K1,E.int T1,E.int M1,E.int W1,X1,X2,E.int L1,E.int R1]) rfl)
    · have hxe:xs=ts:=by
        refine List.ext_getElem? fun j=>?_
        by_cases hj:(j:Int)<i
        · exact h4 j hj
        · rw [List.getElem?_eq_none (by omega),List.getElem?_eq_none (by omega)]
      have hqq:qi=qe:=by rw [hq,hqe,List.take_of_length_le (by omega)]
      subst hqq
      cbv
      repeat' first | with_reducible rfl | with_reducible refine And.intro ?_ ?_ | ((with_reducible intro hcc);first | (cases hcc;done) | skip) | ((with_reducible first | show goC _ _ _ _ _ _ _ _ | show goOps _ _ _ _ _ | show goD _ _ _ _ _ _);cbv) | ((with_reducible show okWr _ _=_);rfl) | (exfalso;simp only [hA.lt,hA.sub,decide_eq_true_eq,decide_eq_false_iff_not,n_cast] at *;omega) | ((with_reducible refine hA.finv _ _ _ _ _ (finv_bsFs (t:=0) (es:=ts) rfl ?_ ?_ htk))) | ((with_reducible first | refine hA.fin_pl _ _ _ ?_ | refine hA.len _ _ _ _ _ fun z hz hb=>?_ | refine hA.off _ _ _ _ fun b hb=>?_ | refine hA.rep _ _ _ fun ds m hds hm=>?_ | refine hA.alt _ _ (Or.inl ?_));cbv) | ((with_reducible first | refine hA.st _ _ _ _ _ ⟨?_,fun ds hds=>?_⟩ | refine hA.sapp _ _ _ ⟨?_,fun sl hsl=>?_⟩);rotate_left;cbv) | (simp only [hA.lits];cbv)
      all_goals try simp only [hA.ar,inR,n_cast,Int.ofNat_eq_natCast,Option.getD_some,Option.getD_none] at *
      all_goals first
        | (rw [hys,hxe];rfl)
        | omega
        | (clear hK h4 he;grind;done)
        | (trace_state;fail))
set_option maxRecDepth 100000 in
theorem m212 (q0:Nat) (ns:List Fd) (rt:Int) (x:List (List E)) (hx:x=ns.map fdr) (h1:ns.length<=1048576) (h2: ∀d∈ns,d.Ex.length<=1048576/\d.Exs.length<=1048576/\ ∀e∈d.Exs,e.length<=1048576):
    Proc Try.prog 30 (fun _=> [.agg [.e (.sl x),.int rt]]) (fun _=> [.ids q0]) (fun _=> .agg [.e (eFs (q0+sumN sF ns) (numL nF sF q0 ns)),.int rt]) (fun _=> [.ids (q0+sumN sF ns+1)]):=procOf mixed p30 (agg_side (az:= [.sl x,E.int rt]) (ds:= [_,E.int rt])) fun A P hA hP=>(by
  have h238:=n238 q0 ns x hx (by rw [hx,List.length_map];exact h1) h2
  obtain ⟨X1,hX1⟩: ∃X,X=eFs (q0+sumN sF ns) (numL nF sF q0 ns):=⟨_,rfl⟩
  obtain ⟨q1,hq1⟩: ∃q,q=q0+sumN sF ns+1:=⟨_,rfl⟩
  have h238:Proc Try.prog 75 (fun _=> [.e (.sl x)]) (fun _=> [.ids q0]) (fun _=> .e X1) (fun _=> [.ids q1]):=by
    rw [hX1,hq1]
    exact h238
  rw [<-hX1,<-hq1]
  clear hX1 hq1
  cbv
  repeat' first | with_reducible rfl | with_reducible refine And.intro ?_ ?_ | ((with_reducible intro hcc);first | (cases hcc;done) | skip) | ((with_reducible first | show goC _ _ _ _ _ _ _ _ | show goOps _ _ _ _ _ | show goD _ _ _ _ _ _);cbv) | ((with_reducible show okWr _ _=_);rfl) | ((with_reducible show A.call _ _ _ _ _ 75 _ _ _);have hc:=h238;refine callK_pr hA hP [0] (by rfl) (by exact ⟨rfl,trivial⟩) (Wks.refl _) ?_ (fun _ _=>hc) hc.side;cbv) | ((with_reducible refine hA.finv _ _ _ _ _ (finv_tok (t:=0) rfl ?_ ?_))) | ((with_reducible first | refine hA.fin_pl _ _ _ ?_);cbv) | ((with_reducible first | refine hA.st _ _ _ _ _ ⟨?_,fun ds hds=>?_⟩);rotate_left;cbv) | (simp only [hA.lits];cbv)
  all_goals try simp only [hA.ar,inR,n_cast,Int.ofNat_eq_natCast,Option.getD_some,Option.getD_none] at *
  all_goals first
    | rfl
    | (trace_state;fail))
def nT (q:Nat) (t:Tb):Nt:=(t.1,t.2.1,q+t.2.2.length,NS.nums q t.2.2)
def sT (t:Tb):Nat:=t.2.2.length+1
set_option maxRecDepth 100000 in
theorem m89 (q0:Nat) (n1:List UInt8) (c1:Int) (rs:List (List (Bool×Int))) (x:List (List E)) (hx:x=rs.map rsr) (h1:rs.length<=1048576) (h2: ∀r∈rs,r.length<=1048576):
    Proc Try.prog 134 (fun _=> [.agg ([E.str n1,E.int c1,E.sl x].map .e)]) (fun _=> [.ids q0]) (fun _=> .agg ((ntr (nT q0 (n1,c1,rs))).map .e)) (fun _=> [.ids (q0+sT (n1,c1,rs))]):=procOf mixed p134 agg_side fun A P hA hP=>(by
  have h48:=NS.ok18 q0 rs x hx (by rw [hx,List.length_map];exact h1) h2
  have hxl:x.length=rs.length:=by rw [hx,List.length_map]
  obtain ⟨X1,hX1⟩: ∃X,X=eRs (q0+rs.length,NS.nums q0 rs):=⟨_,rfl⟩
  obtain ⟨q1,hq1⟩: ∃q,q=q0+sT (n1,c1,rs):=⟨_,rfl⟩
  have h48:Proc Try.prog 18 (fun _=> [.e (.sl x)]) (fun _=> [.ids q0]) (fun _=> .e X1) (fun _=> [.ids q1]):=by
    rw [hxl] at h48
    rw [hX1,hq1]
    exact h48
  have hr:(ntr (nT q0 (n1,c1,rs))).map D.e= [.str n1,.int c1,.e X1]:=by
    rw [hX1]
    rfl
  rw [hr,<-hq1]
  clear hr hX1 hq1
  cbv
  repeat' first | with_reducible rfl | with_reducible refine And.intro ?_ ?_ | ((with_reducible intro hcc);first | (cases hcc;done) | skip) | ((with_reducible first | show goC _ _ _ _ _ _ _ _ | show goOps _ _ _ _ _ | show goD _ _ _ _ _ _);cbv) | ((with_reducible show okWr _ _=_);rfl) | ((with_reducible show A.call _ _ _ _ _ 18 _ _ _);have hc:=h48;refine callK_pr hA hP [0] (by rfl) (by exact ⟨rfl,trivial⟩) (Wks.refl _) ?_ (fun _ _=>hc) hc.side;cbv) | ((with_reducible refine hA.finv _ _ _ _ _ (finv_tok (t:=0) rfl ?_ ?_))) | ((with_reducible first | refine hA.fin_pl _ _ _ ?_);cbv) | ((with_reducible first | refine hA.st _ _ _ _ _ ⟨?_,fun ds hds=>?_⟩);rotate_left;cbv) | (simp only [hA.lits];cbv)
  all_goals try simp only [hA.ar,inR,n_cast,Int.ofNat_eq_natCast,Option.getD_some,Option.getD_none] at *
  all_goals first
    | rfl
    | (trace_state;fail))
set_option maxRecDepth 100000 in
set_option maxHeartbeats 1000000 in
theorem n68 (q0:Nat) (l:List (Tb)) (es:List (List E)) (he:es=l.map tbr) (hlen:es.length<=1048576) (hb2: ∀t∈l,t.2.2.length<=1048576/\ ∀r∈t.2.2,r.length<=1048576):
    Proc Try.prog 76 (fun _=> [.e (.sl es)]) (fun _=> [.ids q0]) (fun _=> .e (.fs (q0+sumN sT l) ((numL nT sT q0 l).map ntr))) (fun _=> [.ids (q0+sumN sT l+1)]):=procOf mixed p76 (NS.tok_side (es:= [.sl es])) fun A P hA hP=>(by
  have hl1:es.length=l.length:=by rw [he];simp
  obtain ⟨ts,hts⟩: ∃ts,ts=(numL nT sT q0 l).map ntr:=⟨_,rfl⟩
  have htl:ts.length=es.length:=by rw [hts,hl1,List.length_map,numL_len]
  have htk: ∀e∈ts,e.length=3:=by
    rw [hts]
    intro e h
    obtain ⟨p,_,rfl⟩:=List.mem_map.1 h
    rfl
  obtain ⟨qe,hqe⟩: ∃q,q=q0+sumN sT l:=⟨_,rfl⟩
  rw [<-hts,<-hqe]
  cbv
  repeat' first | with_reducible rfl | with_reducible refine And.intro ?_ ?_ | ((with_reducible intro hcc);first | (cases hcc;done) | skip) | ((with_reducible first | show goC _ _ _ _ _ _ _ _ | show goOps _ _ _ _ _ | show goD _ _ _ _ _ _);cbv) | ((with_reducible show okWr _ _=_);rfl) | ((with_reducible first | refine hA.fin_pl _ _ _ ?_ | refine hA.len _ _ _ _ _ fun z hz hb=>?_ | refine hA.off _ _ _ _ fun b hb=>?_ | refine hA.rep _ _ _ fun ds m hds hm=>?_ | refine hA.alt _ _ (Or.inl ?_));cbv) | ((with_reducible first | refine hA.st _ _ _ _ _ ⟨?_,fun ds hds=>?_⟩ | refine hA.sapp _ _ _ ⟨?_,fun sl hsl=>?_⟩);rotate_left;cbv) | (simp only [hA.lits];cbv)
  all_goals try simp only [hA.ar,inR,n_cast,Int.ofNat_eq_natCast,Option.getD_some,Option.getD_none] at *
  · omega
  · omega
  · refine hA.loopI (fun n s=> ∃(i:Int) (qi:Nat) (xs:List (List E)),0<=i/\n+i=es.length/\qi=q0+sumN sT (l.take i.toNat)/\xs.length=es.length/\(∀e∈xs,e.length=3)/\(∀j:Nat,j<i->xs[j]?=ts[j]?)/\
        s=⟨[(4,.int i),(3,.bs 1 0 m 3),(2,.zs),(0,.e (.sl es))], [.ids qi,.box (xs.flatten.map .e)]⟩) es.length _
      (Weak.keep (env':= [(4,.int 0),(3,.bs 1 0 m 3),(2,.zs),(0,.e (.sl es))]) ⟨rfl,rfl,rfl,rfl,trivial⟩)
      ⟨0,q0,List.replicate m [E.str [],E.int 0,E.sl []],by omega,by omega,by simp [sumN],by simp;omega,by simp,fun j hj=>by omega,by rw [<-buf_zero,hm];rw [hds];rfl⟩ ?_
    rintro n s K ⟨i,qi,xs,h0,h1,hq,h2,h3,h4,rfl⟩ hK
    obtain ⟨ys,hys⟩: ∃ys,ys=xs.flatten.map D.e:=⟨_,rfl⟩
    have hyl:ys.length=xs.length * 3:=by rw [hys,List.length_map,flatten_len h3]
    rw [<-hys]
    by_cases hin:(0:Int)<=i/\i<es.length
    · obtain ⟨⟨n1,c1,rs⟩,e1,q1⟩:=row_at he hin
      have hmem:=List.mem_of_getElem? q1
      have htk1:=sumN_take (s:=sT) q1
      obtain ⟨x1,hx1⟩: ∃x,x=rs.map rsr:=⟨_,rfl⟩
      have e1:es.getD i.toNat []= [E.str n1,E.int c1,E.sl x1]:=e1.trans (by rw [hx1])
      obtain ⟨qj,hqj⟩: ∃q,q=qi+sT (n1,c1,rs):=⟨_,rfl⟩
      obtain ⟨X1,hX1⟩: ∃X,X=eRs (qi+rs.length,NS.nums qi rs):=⟨_,rfl⟩
      have hr:ntr (nT qi (n1,c1,rs))= [E.str n1,E.int c1,X1]:=by
        rw [hX1]
        rfl
      have hc:Proc Try.prog 134 (fun _=> [.agg ([E.str n1,E.int c1,E.sl x1].map .e)]) (fun _=> [.ids qi]) (fun _=> .agg (([E.str n1,E.int c1,X1]:List E).map .e)) (fun _=> [.ids qj]):=by
        rw [<-hr,hqj]
        exact m89 qi n1 c1 rs x1 hx1 (hb2 _ hmem).1 (hb2 _ hmem).2
      have hrow0:ts[i.toNat]?=some [E.str n1,E.int c1,X1]:=by
        rw [hts,List.getElem?_map,numL_get,q1]
        try rw [<-hq]
        simp only [Option.map_some,hr]
        try rfl
      clear hts
      cbv
      repeat' first | with_reducible rfl | with_reducible refine And.intro ?_ ?_ | ((with_reducible intro hcc);first | (cases hcc;done) | skip) | ((with_reducible first | show goC _ _ _ _ _ _ _ _ | show goOps _ _ _ _ _ | show goD _ _ _ _ _ _);cbv) | ((with_reducible show okWr _ _=_);rfl) | ((with_reducible show A.call _ _ _ _ _ 134 _ _ _);have hc:=hc;refine callK_pr hA hP [0] (by rfl) (by exact ⟨rfl,trivial⟩) (Wks.refl _) ?_ (fun _ _=>hc) hc.side;cbv) | ((with_reducible refine hA.row es _ _ ⟨hin,fun row hrow=>?_⟩);rw [e1] at hrow;subst hrow;cbv) | ((with_reducible first | refine hA.fin_pl _ _ _ ?_ | refine hA.len _ _ _ _ _ fun z hz hb=>?_ | refine hA.off _ _ _ _ fun b hb=>?_ | refine hA.rep _ _ _ fun ds m hds hm=>?_ | refine hA.alt _ _ (Or.inl ?_));cbv) | ((with_reducible first | refine hA.st _ _ _ _ _ ⟨?_,fun ds hds=>?_⟩ | refine hA.sapp _ _ _ ⟨?_,fun sl hsl=>?_⟩);rotate_left;cbv) | (simp only [hA.lits];cbv)
      all_goals try simp only [hA.ar,inR,n_cast,Int.ofNat_eq_natCast,Option.getD_some,Option.getD_none] at *
      all_goals first
        | (show _<(m:Int);omega)
        | omega
        | (clear hK h4 he;grind;done)
        | (have hb':b=i.toNat * 3:=by omega
           refine hK _ (n-1) _ (by omega) (Weak.keep (env':= [(4,.int (i+1)),(3,.bs 1 0 m 3),(2,.zs),(0,.e (.sl es))]) ⟨rfl,rfl,rfl,rfl,trivial⟩)
             ⟨i+1,qj,xs.set i.toNat [E.str n1,E.int c1,X1],by omega,by omega,by rw [show (i+1).toNat=i.toNat+1 by omega,htk1];omega,by simp [h2],fun e h=>?_,fun j hj=>?_,?_⟩
           · rcases List.mem_or_eq_of_mem_set h with h | rfl
             · exact h3 e h
             · rfl
           · by_cases hji:(j:Int)<i
             · rw [List.getElem?_set_ne (show i.toNat≠j by omega)];exact h4 j hji
             · have:j=i.toNat:=by omega
               subst this
               rw [List.getElem?_set_self (show i.toNat<xs.length by omega),hrow0]
           · congr 3
             rw [hds,hys,hb']
             congr 1
             exact buf_set (k:=3) (by omega) h3 (i:=i.toNat) (show i.toNat<xs.length by omega) (r:= [E.str n1,E.int c1,X1]) rfl)
    · have hxe:xs=ts:=by
        refine List.ext_getElem? fun j=>?_
        by_cases hj:(j:Int)<i
        · exact h4 j hj
        · rw [List.getElem?_eq_none (by omega),List.getElem?_eq_none (by omega)]
      have hqq:qi=qe:=by rw [hq,hqe,List.take_of_length_le (by omega)]
      subst hqq
      cbv
      repeat' first | with_reducible rfl | with_reducible refine And.intro ?_ ?_ | ((with_reducible intro hcc);first | (cases hcc;done) | skip) | ((with_reducible first | show goC _ _ _ _ _ _ _ _ | show goOps _ _ _ _ _ | show goD _ _ _ _ _ _);cbv) | ((with_reducible show okWr _ _=_);rfl) | (exfalso;simp only [hA.lt,hA.sub,decide_eq_true_eq,decide_eq_false_iff_not,n_cast] at *;omega) | ((with_reducible refine hA.finv _ _ _ _ _ (finv_bsFs (t:=0) (es:=ts) rfl ?_ ?_ htk))) | ((with_reducible first | refine hA.fin_pl _ _ _ ?_ | refine hA.len _ _ _ _ _ fun z hz hb=>?_ | refine hA.off _ _ _ _ fun b hb=>?_ | refine hA.rep _ _ _ fun ds m hds hm=>?_ | refine hA.alt _ _ (Or.inl ?_));cbv) | ((with_reducible first | refine hA.st _ _ _ _ _ ⟨?_,fun ds hds=>?_⟩ | refine hA.sapp _ _ _ ⟨?_,fun sl hsl=>?_⟩);rotate_left;cbv) | (simp only [hA.lits];cbv)
      all_goals try simp only [hA.ar,inR,n_cast,Int.ofNat_eq_natCast,Option.getD_some,Option.getD_none] at *
      all_goals first
        | (rw [hys,hxe];rfl)
        | omega
        | (clear hK h4 he;grind;done)
        | (trace_state;fail))
set_option maxRecDepth 100000 in
theorem m37 (q0:Nat) (ts:List Tb) (x:List (List E)) (hx:x=ts.map tbr) (h1:ts.length<=1048576) (h2: ∀t∈ts,t.2.2.length<=1048576/\ ∀r∈t.2.2,r.length<=1048576):
    Proc Try.prog 31 (fun _=> [.agg [.e (.sl x)]]) (fun _=> [.ids q0]) (fun _=> .agg [.e (eTs (q0+sumN sT ts) (numL nT sT q0 ts))]) (fun _=> [.ids (q0+sumN sT ts+1)]):=procOf mixed p31 (agg_side (az:= [.sl x]) (ds:= [_])) fun A P hA hP=>(by
  have h68:=n68 q0 ts x hx (by rw [hx,List.length_map];exact h1) h2
  obtain ⟨X1,hX1⟩: ∃X,X=eTs (q0+sumN sT ts) (numL nT sT q0 ts):=⟨_,rfl⟩
  obtain ⟨q1,hq1⟩: ∃q,q=q0+sumN sT ts+1:=⟨_,rfl⟩
  have h68:Proc Try.prog 76 (fun _=> [.e (.sl x)]) (fun _=> [.ids q0]) (fun _=> .e X1) (fun _=> [.ids q1]):=by
    rw [hX1,hq1]
    exact h68
  rw [<-hX1,<-hq1]
  clear hX1 hq1
  cbv
  repeat' first | with_reducible rfl | with_reducible refine And.intro ?_ ?_ | ((with_reducible intro hcc);first | (cases hcc;done) | skip) | ((with_reducible first | show goC _ _ _ _ _ _ _ _ | show goOps _ _ _ _ _ | show goD _ _ _ _ _ _);cbv) | ((with_reducible show okWr _ _=_);rfl) | ((with_reducible show A.call _ _ _ _ _ 76 _ _ _);have hc:=h68;refine callK_pr hA hP [0] (by rfl) (by exact ⟨rfl,trivial⟩) (Wks.refl _) ?_ (fun _ _=>hc) hc.side;cbv) | ((with_reducible refine hA.finv _ _ _ _ _ (finv_tok (t:=0) rfl ?_ ?_))) | ((with_reducible first | refine hA.fin_pl _ _ _ ?_);cbv) | ((with_reducible first | refine hA.st _ _ _ _ _ ⟨?_,fun ds hds=>?_⟩);rotate_left;cbv) | (simp only [hA.lits];cbv)
  all_goals try simp only [hA.ar,inR,n_cast,Int.ofNat_eq_natCast,Option.getD_some,Option.getD_none] at *
  all_goals first
    | rfl
    | (trace_state;fail))
end Go.Proofs.Ytfplalbognalkaa.Ab
/- What is handed back in structs and tuples; empty slices, nil or not; cells taken for less. -/
namespace Go.Proofs.Ytfplalbognalkaa.Ab
open Go
def Plc (x y d0 d1:D):Prop:= ∀(w:World) (G:Gh) (h:Hp) (v:Value),Rv w G h v d0-> ∃u,Rv w G h u x/\ ∀(w2:World) (G2:Gh) (h2:Hp),Rv w2 G2 h2 u y->Rv w2 G2 h2 v d1
theorem Plc.refl {x y:D} :Plc x y x y:=fun _ _ _ v r=>⟨v,r,fun _ _ _ r=>r⟩
theorem Plc.agg {x y d0 d1:D} {ds:List D} (s:Plc x y d0 d1) (hs:scs ds=true):Plc x y (.agg (d0::ds)) (.agg (d1::ds)):=fun w G h v r=>by
  cases r with
  | @agg cs _ hl h1 hr=>
    have h0:0<cs.size:=by rw [hl];simp
    obtain ⟨u,q1,q2⟩:=s w G h cs[0] (hr 0 cs[0] d0 (by simp [h0]) rfl)
    refine ⟨u,q1,fun w2 G2 h2 r2=> .agg (by simpa using hl) h1 fun j c d hc hd=>?_⟩
    cases j with
    | zero=>
      simp at hd
      subst hd
      have:cs[0]=c:=by simpa [h0] using hc
      rw [<-this]
      exact q2 w2 G2 h2 r2
    | succ j=>exact (hr (j+1) c d hc (by simpa using hd)).sc (scs_get hs (by simpa using hd))
theorem Plc.tup {x y d0 d1:D} {ds:List D} (s:Plc x y d0 d1) (hs:scs ds=true):Plc x y (.tup (d0::ds)) (.tup (d1::ds)):=fun w G h v r=>by
  cases r with
  | @tup cs _ hl hr=>
    have h0:0<cs.size:=by rw [hl];simp
    obtain ⟨u,q1,q2⟩:=s w G h cs[0] (hr 0 cs[0] d0 (by simp [h0]) rfl)
    refine ⟨u,q1,fun w2 G2 h2 r2=> .tup (by simpa using hl) fun j c d hc hd=>?_⟩
    cases j with
    | zero=>
      simp at hd
      subst hd
      have:cs[0]=c:=by simpa [h0] using hc
      rw [<-this]
      exact q2 w2 G2 h2 r2
    | succ j=>exact (hr (j+1) c d hc (by simpa using hd)).sc (scs_get hs (by simpa using hd))
theorem FinV.ctx {l0 l' l:List O} {x y d' d:D} (h:FinV l0 l' x l y) (c:Plc x y d' d):FinV l0 l' d' l d:=fun w G v hi hr=>by
  obtain ⟨u,ru,back⟩:=c w G _ v hr
  obtain ⟨G',r',i',e'⟩:=h w G u hi ru
  exact ⟨G',back _ _ _ r',i',e'⟩
theorem finv_zsFs {l:List O} {m0 m m' t i:Nat} (ht:hpF l t= .ids m) (hm:m<=m'):FinV [.ids m0] l .zs [.ids m'] (.e (.fs i [])):=fun w G v hi hr=>by
  obtain ⟨i1,x1⟩:=tok_out (m0:=m0) (m1:=m') hi ht hm
  cases hr with
  | zs ha=>exact ⟨G,.e (.fnils fun _=>rfl),i1,x1⟩
theorem CallOK.nil {P:Program} {fn:FuncId} {az:List D} {l0:List O} {R:D->List O->Prop} (h1:CallOK P fn (.e (.v (.slice none 0 0))::az) l0 R) (h2:CallOK P fn (.e0::az) l0 R):CallOK P fn (.e (.sl [])::az) l0 R:=fun w G vs hi hs hr=>by
  have h0:0<vs.size:=by rw [hs];simp
  have hr0:=rv_e (hr 0 vs[0] (.e (.sl [])) (by simp [h0]) rfl)
  have rest: ∀ {d:D},Rv w G (hpF l0) vs[0] d-> ∀(j:Nat) v x,vs[j]?=some v->(d::az)[j]?=some x->Rv w G (hpF l0) v x:=fun {d} r j v x hv hx=>by
    cases j with
    | zero=>
      simp at hx
      subst hx
      have:vs[0]=v:=by simpa [h0] using hv
      rw [<-this];exact r
    | succ j=>exact hr (j+1) v x hv (by simpa using hx)
  have e0: ∃a cap,vs[0]= .slice a 0 cap/\(a=none->cap=0):=by
    generalize vs[0]=u at hr0
    cases hr0 with
    | nils h=>exact ⟨_,_,rfl,h⟩
    | sl u hn hc hm hk hp hr=>simp at hn;subst hn;exact ⟨_,_,rfl,fun h=>by cases h⟩
  obtain ⟨a,cap,e,ha⟩:=e0
  cases a with
  | none=>
    rw [ha rfl] at e
    exact h1 w G vs hi (by simpa using hs) (rest (by rw [e];exact .e (.v rfl)))
  | some a=>exact h2 w G vs hi (by simpa using hs) (rest (by rw [e];exact .e0))
theorem Weak.vsub {h0:Hp} {env:List (Nat×D)} {hp:List O} {i k:Nat} {ds ds':List D} (h:hpF hp i= .vec true k ds) (hl:ds'.length=ds.length) (hs: ∀(j:Nat) d d',ds[j]?=some d->ds'[j]?=some d'->Sub d d'):
    Weak h0 ⟨env,hp⟩ ⟨env,hp.set i (.vec true k ds')⟩:=fun w G hi=>by
  have hil:i<hp.length:=by
    rcases Nat.lt_or_ge i hp.length with q | q
    · exact q
    · rw [hpF_ge q] at h;cases h
  have hh: ∀j,hpF (hp.set i (.vec true k ds')) j=if j=i then .vec true k ds' else hpF hp j:=fun j=>by
    by_cases q:j=i
    · subst q
      rw [if_pos rfl]
      simp [hpF,List.getD,hil]
    · rw [if_neg q]
      simp [hpF,List.getD,List.getElem?_set_ne (Ne.symm q)]
  have same: ∀ {j o},hpF (hp.set i (.vec true k ds')) j=o->(∀b k ds,o≠ .vec b k ds)->hpF hp j=o:=fun {j o} e q=>by
    rw [hh] at e
    split at e
    · exact absurd e.symm (q _ _ _)
    · exact e
  have same': ∀ {j o},hpF hp j=o->(∀b k ds,o≠ .vec b k ds)->hpF (hp.set i (.vec true k ds')) j=o:=fun {j o} e q=>by
    rw [hh,if_neg (fun q2=>by subst q2;rw [h] at e;exact q _ _ _ e.symm)]
    exact e
  have has: ∀j,(hpF (hp.set i (.vec true k ds')) j).has=(hpF hp j).has:=fun j=>by
    rw [hh]
    split
    · rename_i q;subst q;rw [h];rfl
    · rfl
  have ext:Ext w G (hpF hp) w G (hpF (hp.set i (.vec true k ds'))):=
    ⟨rfl,rfl,rfl,Nat.le_refl _,fun _ _ p=>⟨p,rfl⟩,fun _ ds e=>⟨⟨ds,same' e (by simp),rfl⟩,rfl⟩,fun _ n _ e=>⟨n,same' e (by simp),Nat.le_refl _,fun _ _=>⟨rfl,rfl⟩⟩,fun _ _ _ _=>rfl,
      fun j e=> .inl ⟨j,by rw [<-has];exact e,rfl⟩,fun _ _ p=> .inl p,fun j b k2 ds2 e=> .inr (by
        by_cases q:j=i
        · subst q
          rw [h] at e
          cases e
          exact ⟨ds',by rw [hh,if_pos rfl],by omega,fun _=>⟨rfl,rfl⟩⟩
        · exact ⟨ds2,by rw [hh,if_neg q];exact e,Nat.le_refl _,fun _=>⟨rfl,rfl⟩⟩),fun _ e=>same' e (by simp),fun _ l e=>⟨⟨l,same' e (by simp)⟩,rfl⟩,fun _ _ e=>e,fun _ m e=>⟨m,same' e (by simp)⟩,fun _ R e=>⟨⟨R,same' e (by simp)⟩,rfl⟩,
      fun j R e b hb=> .inl ⟨j,R,same e (by simp),hb⟩,fun j m e=>⟨j,m,same e (by simp)⟩,fun _=>rfl,fun _ _ e=> .inl e⟩
  refine ⟨G,⟨fun j e=>hi.lt j (by rw [<-has];exact e),fun a b e1 e2=>hi.inj a b (by rw [<-has];exact e1) (by rw [<-has];exact e2),hi.publt,fun j ds2 e=>?_,fun j n k2 e=>hi.front j n k2 (same e (by simp)),fun j b k2 ds2 e=>?_,fun j l e=>?_,
    ⟨fun j b e=>⟨(hi.x.sgs j b e).1,fun a ha=>(hi.x.sgs j b e).2.1 a (by rw [<-has];exact ha),(hi.x.sgs j b e).2.2⟩,hi.x.sgi,fun j m e=>hi.x.ids j m (same e (by simp)),fun a b m m' e1 e2=>hi.x.idu a b m m' (same e1 (by simp)) (same e2 (by simp)),fun j R e=>?_⟩⟩,fun _ _ e=>e.trans ext,fun t d' hd=>⟨d',hd,fun v r=>r.ext ext⟩⟩
  · obtain ⟨a1,cs,T,a2,a3,a4⟩:=hi.box j ds2 (same e (by simp))
    exact ⟨a1,cs,T,a2,a3,fun q c d hc hd=>⟨(a4 q c d hc hd).1.ext ext,(a4 q c d hc hd).2⟩⟩
  · by_cases q:j=i
    · subst q
      rw [hh,if_pos rfl] at e
      cases e
      obtain ⟨a0,a⟩:=hi.vec j true k ds h
      refine ⟨fun hb=>(by cases hb),fun hb=>?_⟩
      obtain ⟨a1,cs,T,a2,a3,a4⟩:=a rfl
      refine ⟨a1,cs,T,a2,by omega,fun p c d hc hd=>?_⟩
      have hp:p<ds.length:=by rw [<-hl];exact (List.getElem?_eq_some_iff.1 hd).1
      obtain ⟨r1,r2⟩:=a4 p c ds[p] hc (by simp [hp])
      exact ⟨(hs p ds[p] d (by simp [hp]) hd _ _ _ _ r1).ext ext,r2⟩
    · rw [hh,if_neg q] at e
      obtain ⟨a0,a⟩:=hi.vec j b k2 ds2 e
      refine ⟨a0,fun hb=>?_⟩
      obtain ⟨a1,cs,T,a2,a3,a4⟩:=a hb
      exact ⟨a1,cs,T,a2,a3,fun q c d hc hd=>⟨(a4 q c d hc hd).1.ext ext,(a4 q c d hc hd).2⟩⟩
  · obtain ⟨a1,es,ck,a2,a3,a4⟩:=hi.smap j l (same e (by simp))
    exact ⟨a1,es,ck,a2,a3,a4⟩
  · obtain ⟨a,c⟩:=hi.x.res j R (same e (by simp))
    refine ⟨a,fun b hb=>?_⟩
    obtain ⟨c1,c2,c3,c4,c5⟩:=c b hb
    exact ⟨c1,c2,c3,fun k2 hk=>c4 k2 (by rw [<-has];exact hk),fun k2 R' e'=>c5 k2 R' (same e' (by simp))⟩
theorem sub_zs {i:Nat} :Sub .zs (.e (.fs i [])):=fun _ _ _ _ r=>by
  cases r with | zs ha=>exact .e (.fnils fun _=>rfl)
theorem Sub.refl {d:D} :Sub d d:=fun _ _ _ _ r=>r
end Go.Proofs.Ytfplalbognalkaa.Ab
/- Cells of a box, taken for less; an empty slice in a box that is appended to. -/
namespace Go.Proofs.Ytfplalbognalkaa.Ab
open Go
theorem hpF_seti {hp:List O} {i:Nat} {o:O} (hil:i<hp.length): ∀j,hpF (hp.set i o) j=if j=i then o else hpF hp j:=fun j=>by
  by_cases q:j=i
  · subst q
    rw [if_pos rfl]
    simp [hpF,List.getD,hil]
  · rw [if_neg q]
    simp [hpF,List.getD,List.getElem?_set_ne (Ne.symm q)]
theorem Weak.bsub {h0:Hp} {env:List (Nat×D)} {hp:List O} {i:Nat} {ds ds':List D} (h:hpF hp i= .box ds) (hl:ds'.length=ds.length)
    (hs: ∀(w:World) (G:Gh),Inv w G (hpF hp)-> ∀(j:Nat) d d',ds[j]?=some d->ds'[j]?=some d'-> ∀v,Rv w G (hpF hp) v d->Rv w G (hpF hp) v d'):Weak h0 ⟨env,hp⟩ ⟨env,hp.set i (.box ds')⟩:=fun w G hi=>by
  have hil:i<hp.length:=by
    rcases Nat.lt_or_ge i hp.length with q | q
    · exact q
    · rw [hpF_ge q] at h;cases h
  have hh:=hpF_seti (o:= .box ds') hil
  have same: ∀ {j o},hpF (hp.set i (.box ds')) j=o->(∀ds,o≠ .box ds)->hpF hp j=o:=fun {j o} e q=>by
    rw [hh] at e
    split at e
    · exact absurd e.symm (q _)
    · exact e
  have same': ∀ {j o},hpF hp j=o->(∀ds,o≠ .box ds)->hpF (hp.set i (.box ds')) j=o:=fun {j o} e q=>by
    rw [hh,if_neg (fun q2=>by subst q2;rw [h] at e;exact q _ e.symm)]
    exact e
  have has: ∀j,(hpF (hp.set i (.box ds')) j).has=(hpF hp j).has:=fun j=>by
    rw [hh]
    split
    · rename_i q;subst q;rw [h];rfl
    · rfl
  have ext:Ext w G (hpF hp) w G (hpF (hp.set i (.box ds'))):=
    ⟨rfl,rfl,rfl,Nat.le_refl _,fun _ _ p=>⟨p,rfl⟩,fun j ds2 e=>⟨by
        by_cases q:j=i
        · subst q
          rw [h] at e
          cases e
          exact ⟨ds',by rw [hh,if_pos rfl],hl⟩
        · exact ⟨ds2,by rw [hh,if_neg q];exact e,rfl⟩,rfl⟩,fun _ n _ e=>⟨n,same' e (by simp),Nat.le_refl _,fun _ _=>⟨rfl,rfl⟩⟩,fun _ _ _ _=>rfl,
      fun j e=> .inl ⟨j,by rw [<-has];exact e,rfl⟩,fun _ _ p=> .inl p,fun j b k2 ds2 e=> .inr ⟨ds2,same' e (by simp),Nat.le_refl _,fun _=>⟨rfl,rfl⟩⟩,fun _ e=>same' e (by simp),fun _ l e=>⟨⟨l,same' e (by simp)⟩,rfl⟩,fun _ _ e=>e,fun _ m e=>⟨m,same' e (by simp)⟩,fun _ R e=>⟨⟨R,same' e (by simp)⟩,rfl⟩,
      fun j R e b hb=> .inl ⟨j,R,same e (by simp),hb⟩,fun j m e=>⟨j,m,same e (by simp)⟩,fun _=>rfl,fun _ _ e=> .inl e⟩
  refine ⟨G,⟨fun j e=>hi.lt j (by rw [<-has];exact e),fun a b e1 e2=>hi.inj a b (by rw [<-has];exact e1) (by rw [<-has];exact e2),hi.publt,fun j ds2 e=>?_,fun j n k2 e=>hi.front j n k2 (same e (by simp)),fun j b k2 ds2 e=>?_,fun j l e=>?_,
    ⟨fun j b e=>⟨(hi.x.sgs j b e).1,fun a ha=>(hi.x.sgs j b e).2.1 a (by rw [<-has];exact ha),(hi.x.sgs j b e).2.2⟩,hi.x.sgi,fun j m e=>hi.x.ids j m (same e (by simp)),fun a b m m' e1 e2=>hi.x.idu a b m m' (same e1 (by simp)) (same e2 (by simp)),fun j R e=>?_⟩⟩,fun _ _ e=>e.trans ext,fun t d' hd=>⟨d',hd,fun v r=>r.ext ext⟩⟩
  · by_cases q:j=i
    · subst q
      rw [hh,if_pos rfl] at e
      cases e
      obtain ⟨a1,cs,T,a2,a3,a4⟩:=hi.box j ds h
      refine ⟨a1,cs,T,a2,by omega,fun p c d hc hd=>?_⟩
      have hp:p<ds.length:=by rw [<-hl];exact (List.getElem?_eq_some_iff.1 hd).1
      obtain ⟨r1,r2⟩:=a4 p c ds[p] hc (by simp [hp])
      exact ⟨(hs w G hi p ds[p] d (by simp [hp]) hd c r1).ext ext,r2⟩
    · rw [hh,if_neg q] at e
      obtain ⟨a1,cs,T,a2,a3,a4⟩:=hi.box j ds2 e
      exact ⟨a1,cs,T,a2,a3,fun q c d hc hd=>⟨(a4 q c d hc hd).1.ext ext,(a4 q c d hc hd).2⟩⟩
  · obtain ⟨a0,a⟩:=hi.vec j b k2 ds2 (same e (by simp))
    refine ⟨a0,fun hb=>?_⟩
    obtain ⟨a1,cs,T,a2,a3,a4⟩:=a hb
    exact ⟨a1,cs,T,a2,a3,fun q c d hc hd=>⟨(a4 q c d hc hd).1.ext ext,(a4 q c d hc hd).2⟩⟩
  · exact hi.smap j l (same e (by simp))
  · obtain ⟨a,c⟩:=hi.x.res j R (same e (by simp))
    refine ⟨a,fun b hb=>?_⟩
    obtain ⟨c1,c2,c3,c4,c5⟩:=c b hb
    exact ⟨c1,c2,c3,fun k2 hk=>c4 k2 (by rw [<-has];exact hk),fun k2 R' e'=>c5 k2 R' (same e' (by simp))⟩
theorem Weak.newf {h0:Hp} {env:List (Nat×D)} {hp:List O} (k:Nat):Weak h0 ⟨env,hp⟩ ⟨env,hp++ [.front 0 k]⟩:=fun w G hi=>by
  obtain ⟨i1,x1⟩:=inv_front0 (i:=hp.length) (k:=k) hi (.inl (hpF_ge (Nat.le_refl _)))
  rw [<-hpF_snoc] at i1 x1
  exact ⟨G,i1,fun w0 G0 e=>e.trans x1,fun t' d' hl=>⟨d',hl,fun x r=>r.ext x1⟩⟩
theorem Weak.bzown {h0:Hp} {env:List (Nat×D)} {hp:List O} {i:Nat} {ds:List D} (j k:Nat) (h:hpF hp i= .box ds) (hz:ds[j]?=some .zs):
    Weak h0 ⟨env,hp⟩ ⟨env,(hp++ [O.front 0 k]).set i (.box (ds.set j (.own hp.length [])))⟩:=by
  refine (Weak.newf k).trans (Weak.bsub (hp:=hp++ [O.front 0 k]) (i:=i) (ds:=ds) ?_ (by simp) fun w G hi q d d' hd hd' v r=>?_)
  · rw [hpF_snoc]
    have:i≠hp.length:=fun e=>by rw [e,hpF_ge (Nat.le_refl _)] at h;cases h
    show (if i=hp.length then O.front 0 k else hpF hp i)=_
    rw [if_neg this]
    exact h
  · by_cases e:q=j
    · subst e
      rw [hz] at hd
      cases hd
      rw [List.getElem?_set_self (List.getElem?_eq_some_iff.1 hz).1] at hd'
      cases hd'
      cases r with
      | zs ha=>exact .own (k:=k) (empty_sl ha fun _=>rfl) (by simp) ⟨0,by rw [hpF_snoc];simp,Nat.le_refl _,fun _=> .inl ⟨rfl,_,rfl,ha⟩⟩
    · rw [List.getElem?_set_ne (Ne.symm e),hd] at hd'
      cases hd'
      exact r
theorem Plc.sub {x y d0 d1:D} (p:Plc x y d0 d1) (s:Sub x y):Sub d0 d1:=fun w G h v r=>by
  obtain ⟨u,r1,back⟩:=p w G h v r
  exact back _ _ _ (s _ _ _ _ r1)
theorem callOf {Q:Program} (hm:Q.follows .mixedOrders=true) {fn:FuncId} {f:F} {args:List D} {l0:List O} {d:D} {l:List O} (hf:prepF Q fn=some f)
    (h: ∀(A:Ar) (P:Program),A.Ok->P=Q->goF A P f args l0 fun d' l'=>A.finv l0 l' d' l d):CallOK Q fn args l0 fun d' l'=>FinV l0 l' d' l d:=callOK hm hf (h Ar.std Q Ar.std_ok rfl)
end Go.Proofs.Ytfplalbognalkaa.Ab
/- The program's simplified plans: its pieces, with numbers. -/
namespace Go.Proofs.Ytfplalbognalkaa.Ab
open Go
def c153:F:=⟨8, [(.tmp 2)],(.seq (.reg [ZA 2 (.mov (.c .zs))]) (.seq (.seq (.reg [ZA 3 (.mov 0),ZA 4 (.isnil false 3)]) (.cond 4 (.seq (.reg [ZA 2 (.mov (.c .zs))]) .ret) .skip)) (.seq (.reg [ZA 5 (.lit 2 [(.v (.int .i64 0)),(.v (.int .i64 0))] 0 []),ZA 6 (.mov 0),ZA 7 (.app 2 5 6),ZA 2 (.mov 7)]) .ret)))⟩
theorem p153:prepF Try.prog 153=some c153:=by kernel_rfl
def c98:F:=⟨5, [(.tmp 2)],(.seq (.reg [ZA 2 (.mov (.c .zs))]) (.seq (.reg [ZA 3 (.mov 0),ZA 4 (.call 153 [3]),ZA 2 (.mov 4)]) .ret))⟩
theorem p98:prepF Try.prog 98=some c98:=by kernel_rfl
def c99:F:=⟨20, [(.tmp 2)],(.seq (.reg [ZA 2 (.mov (.c .zs))]) (.seq (.reg [ZA 6 (.lit 1 [(.sl [])] 0 []),ZA 3 (.mov 6)]) (.seq (.seq (.reg [ZA 7 (.mov 0),ZA 8 (.lenl 7),ZA 9 (.mov (.c (.int 0)))]) (.block 0 (.loop (.seq (.reg [ZA 10 (.bin .lss 9 8)]) (.seq (.cond 10 .skip (.exit 0)) (.seq (.block 1 (.seq (.reg [ZA 11 (.iadr none 1 7 9),ZA 12 (.load false 1 11),ZA 5 (.mov 12)]) (.reg [ZA 13 (.mov 3),ZA 14 (.mov 5),ZA 15 (.call 98 [14]),ZA 16 (.lit 1 [(.sl [])] 1 [(0,15)]),ZA 17 (.app 1 13 16),ZA 3 (.mov 17)]))) (.reg [ZA 18 (.bin .add 9 (.c (.int 1))),ZA 9 (.mov 18)]))))))) (.seq (.reg [ZA 19 (.mov 3),ZA 2 (.mov 19)]) .ret))))⟩
theorem p99:prepF Try.prog 99=some c99:=by kernel_rfl
def c101:F:=⟨6, [(.tmp 2)],(.seq (.reg [ZA 2 (.mov (.c .zs))]) (.seq (.reg [ZA 3 (.mov 0),ZA 4 (.build [(.int 0),(.int 0)] [(0,(1,(.c (.int 3)))),(1,(1,3))]),ZA 5 (.lit 2 [(.v (.int .i64 0)),(.v (.int .i64 0))] 1 [(0,4)]),ZA 2 (.mov 5)]) .ret))⟩
theorem p101:prepF Try.prog 101=some c101:=by kernel_rfl
def c100:F:=⟨29, [(.tmp 4)],(.seq (.reg [ZA 4 (.mov (.c (.int 0)))]) (.seq (.seq (.reg [ZA 5 (.mov 0),ZA 6 (.lenl 5),ZA 7 (.bin .lss 6 (.c (.int 1))),ZA 8 (.mov 7),ZF 9 8 (.mov 0),ZF 10 8 (.lenl 9),ZF 11 8 (.bin .gtr 10 (.c (.int 2))),ZA 12 (.pick 8 (.c (.bool true)) 11),ZA 13 (.mov 12),ZF 14 13 (.mov 0),ZF 15 13 (.iadr none 2 14 (.c (.int 0))),ZF 16 13 (.load true 2 15),ZF 17 13 (.mov 1),ZF 18 13 (.build [(.int 0),(.int 0)] [(0,(1,(.c (.int 3)))),(1,(1,17))]),ZF 19 13 (.binst true [0,1] 16 18),ZA 20 (.pick 13 (.c (.bool true)) 19)]) (.cond 20 (.seq (.reg [ZA 4 (.mov (.c (.int 0)))]) .ret) .skip)) (.seq (.seq (.reg [ZA 21 (.mov 0),ZA 22 (.lenl 21),ZA 23 (.bin .eql 22 (.c (.int 1)))]) (.cond 23 (.seq (.reg [ZA 4 (.mov (.c (.int 1)))]) .ret) .skip)) (.seq (.seq (.reg [ZA 24 (.mov 0),ZA 25 (.iadr none 2 24 (.c (.int 1))),ZA 26 (.load true 2 25),ZA 27 (.build [(.int 0),(.int 0)] [(0,(1,(.c (.int 7))))]),ZA 28 (.binst false [0,1] 26 27)]) (.cond 28 (.seq (.reg [ZA 4 (.mov (.c (.int 2)))]) .ret) .skip)) (.seq (.reg [ZA 4 (.mov (.c (.int 0)))]) .ret)))))⟩
theorem p100:prepF Try.prog 100=some c100:=by kernel_rfl
theorem allLen_orow (l:List (Int×Int)):allLen 2 (l.map orow):=allLen_iff.2 (fun e h=>by obtain ⟨p,_,rfl⟩:=List.mem_map.1 h;rfl)
set_option maxRecDepth 100000 in
theorem n299 (q0:Nat) (l:List (Int×Int)) (x:List (List E)) (hx:x=l.map orow) (hlen:x.length<=1048576):Proc Try.prog 153 (fun _=> [.e (.sl x)]) (fun _=> [.ids q0]) (fun _=> .e (eX (q0,l))) (fun _=> [.ids (q0+1)]):=by
  refine ⟨NS.tok_side (es:= [.sl x]),?_⟩
  obtain ⟨q1,hq1⟩: ∃q,q=q0+1:=⟨_,rfl⟩
  obtain ⟨X,hX⟩: ∃X,X=eX (q0,l):=⟨_,rfl⟩
  rw [<-hq1,<-hX]
  cases l with
  | nil=>
    have hxx:x= []:=hx
    have hXX:X= .fs q0 []:=hX
    subst hxx hXX
    refine CallOK.nil ?_ ?_
    · refine callOf mixed p153 fun A P hA hP=>?_
      cbv
      repeat' first | with_reducible rfl | with_reducible refine And.intro ?_ ?_ | ((with_reducible intro hcc);first | (cases hcc;done) | skip) | ((with_reducible first | show goC _ _ _ _ _ _ _ _ | show goOps _ _ _ _ _ | show goD _ _ _ _ _ _);cbv) | ((with_reducible show okWr _ _=_);rfl) | ((with_reducible refine hA.finv _ _ _ _ _ (finv_zsFs (t:=0) rfl ?_))) | ((with_reducible first | refine hA.fin_pl _ _ _ ?_ | refine hA.alt _ _ (Or.inl ?_));cbv) | ((with_reducible first | refine hA.app _ _ _ _ _ ⟨?_,fun zs m hzs hm=>?_⟩ | refine hA.app0 _ _ _ ⟨?_,fun m hm=>?_⟩ | refine hA.appv _ _ _ _ _ _ ⟨?_,fun bb m ds hbb hm hds=>?_⟩ | refine hA.vcut _ _ _ _ ⟨?_,fun cs hcs=>?_⟩ | refine hA.appw _ _ _ _ _ _ _ ⟨?_,fun bb m ds hbb hm hds=>?_⟩);rotate_left;cbv) | (simp only [hA.lits];cbv)
      all_goals try simp only [hA.ar,inR,n_cast,Int.ofNat_eq_natCast,Option.getD_some,Option.getD_none] at *
      all_goals first
        | omega
        | (trace_state;fail)
    · refine callOf mixed p153 fun A P hA hP=>?_
      subst hq1
      cbv
      repeat' first | with_reducible rfl | with_reducible refine And.intro ?_ ?_ | ((with_reducible intro hcc);first | (cases hcc;done) | skip) | ((with_reducible first | show goC _ _ _ _ _ _ _ _ | show goOps _ _ _ _ _ | show goD _ _ _ _ _ _);cbv) | ((with_reducible show okWr _ _=_);rfl) | ((with_reducible refine hA.alt _ _ (Or.inr ?_));cbv) | ((with_reducible refine hA.app0v _ _ _ ⟨?_,fun bb m ds hbb hm hds=>?_⟩);rotate_left;cbv) | ((with_reducible refine hA.finv _ _ _ _ _ (finv_vecFs (t:=0) (es:= []) rfl rfl ?_ ?_ ?_))) | ((with_reducible first | refine hA.fin_pl _ _ _ ?_ | refine hA.alt _ _ (Or.inl ?_));cbv) | ((with_reducible first | refine hA.app _ _ _ _ _ ⟨?_,fun zs m hzs hm=>?_⟩ | refine hA.app0 _ _ _ ⟨?_,fun m hm=>?_⟩ | refine hA.appv _ _ _ _ _ _ ⟨?_,fun bb m ds hbb hm hds=>?_⟩ | refine hA.vcut _ _ _ _ ⟨?_,fun cs hcs=>?_⟩ | refine hA.appw _ _ _ _ _ _ _ ⟨?_,fun bb m ds hbb hm hds=>?_⟩);rotate_left;cbv) | (simp only [hA.lits];cbv)
      all_goals try simp only [hA.ar,inR,n_cast,Int.ofNat_eq_natCast,Option.getD_some,Option.getD_none] at *
      all_goals first
        | omega
        | exact ⟨by simp,trivial⟩
        | exact trivial
        | (simp [hm];done)
        | (intro e h;cases h)
        | (trace_state;fail)
  | cons p r=>
    obtain ⟨e0,he0⟩: ∃e,e=orow p:=⟨_,rfl⟩
    obtain ⟨xr,hxr⟩: ∃e,e=r.map orow:=⟨_,rfl⟩
    have hxx:x=e0::xr:=by rw [hx,he0,hxr];rfl
    have hal:allLen 2 (e0::xr):=by rw [<-hxx,hx];exact allLen_orow _
    have hXX:X= .fs q0 (e0::xr):=by rw [hX,eX,<-hxx,hx]
    have hl:(e0::xr).length<=1048576:=by rw [<-hxx];exact hlen
    subst hxx hXX
    clear hx hX he0 hxr
    refine callOf mixed p153 fun A P hA hP=>?_
    subst hq1
    cbv
    repeat' first | with_reducible rfl | with_reducible refine And.intro ?_ ?_ | ((with_reducible intro hcc);first | (cases hcc;done) | skip) | ((with_reducible first | show goC _ _ _ _ _ _ _ _ | show goOps _ _ _ _ _ | show goD _ _ _ _ _ _);cbv) | ((with_reducible show okWr _ _=_);rfl) | ((with_reducible refine hA.alt _ _ (Or.inr ?_));cbv) | ((with_reducible refine hA.app0v _ _ _ ⟨?_,fun bb m ds hbb hm hds=>?_⟩);rotate_left;cbv) | ((with_reducible refine hA.finv _ _ _ _ _ (finv_vecFs (t:=0) (es:=e0::xr) rfl rfl ?_ ?_ (allLen_iff.1 hal)))) | ((with_reducible first | refine hA.fin_pl _ _ _ ?_ | refine hA.alt _ _ (Or.inl ?_));cbv) | ((with_reducible first | refine hA.app _ _ _ _ _ ⟨?_,fun zs m hzs hm=>?_⟩ | refine hA.app0 _ _ _ ⟨?_,fun m hm=>?_⟩ | refine hA.appv _ _ _ _ _ _ ⟨?_,fun bb m ds hbb hm hds=>?_⟩ | refine hA.vcut _ _ _ _ ⟨?_,fun cs hcs=>?_⟩ | refine hA.appw _ _ _ _ _ _ _ ⟨?_,fun bb m ds hbb hm hds=>?_⟩);rotate_left;cbv) | (simp only [hA.lits];cbv)
    all_goals try simp only [hA.ar,inR,n_cast,Int.ofNat_eq_natCast,Option.getD_some,Option.getD_none] at *
    all_goals first
      | omega
      | exact ⟨by omega,hal⟩
      | exact hal
      | exact hm.symm
      | (rw [hds,List.take_of_length_le];rw [List.length_map,flatten_len (allLen_iff.1 hal),hm];exact Nat.le_refl _)
      | exact allLen_iff.1 hal
      | (trace_state;fail)
set_option maxRecDepth 100000 in
theorem n259 (q0:Nat) (l:List (Int×Int)) (x:List (List E)) (hx:x=l.map orow) (hlen:x.length<=1048576):Proc Try.prog 98 (fun _=> [.e (.sl x)]) (fun _=> [.ids q0]) (fun _=> .e (eX (q0,l))) (fun _=> [.ids (q0+1)]):=procOf mixed p98 (NS.tok_side (es:= [.sl x])) fun A P hA hP=>(by
  have h299:=n299 q0 l x hx hlen
  obtain ⟨q1,hq1⟩: ∃q,q=q0+1:=⟨_,rfl⟩
  obtain ⟨X,hX⟩: ∃X,X=eX (q0,l):=⟨_,rfl⟩
  rw [<-hq1,<-hX] at h299
  rw [<-hq1,<-hX]
  cbv
  repeat' first | with_reducible rfl | with_reducible refine And.intro ?_ ?_ | ((with_reducible intro hcc);first | (cases hcc;done) | skip) | ((with_reducible first | show goC _ _ _ _ _ _ _ _ | show goOps _ _ _ _ _ | show goD _ _ _ _ _ _);cbv) | ((with_reducible show okWr _ _=_);rfl) | ((with_reducible show A.call _ _ _ _ _ 153 _ _ _);have hc:=h299;refine callK_pr hA hP [0] (by rfl) (by exact ⟨rfl,trivial⟩) (Wks.refl _) ?_ (fun _ _=>hc) hc.side;cbv) | ((with_reducible refine hA.finv _ _ _ _ _ (finv_tok (t:=0) rfl ?_ ?_))) | ((with_reducible first | refine hA.fin_pl _ _ _ ?_);cbv) | (simp only [hA.lits];cbv)
  all_goals try simp only [hA.ar,inR,n_cast,Int.ofNat_eq_natCast,Option.getD_some,Option.getD_none] at *
  all_goals first
    | rfl
    | (trace_state;fail))
set_option maxRecDepth 100000 in
theorem n262 (q0:Nat) (n:Int):Proc Try.prog 101 (fun _=> [.int n]) (fun _=> [.ids q0]) (fun _=> .e (eX (q0, [(3,n)]))) (fun _=> [.ids (q0+1)]):=procOf mixed p101 (NS.tok_side (es:= [E.int n])) fun A P hA hP=>(by
  obtain ⟨X,hX⟩: ∃X,X=E.fs q0 [[E.int 3,E.int n]]:=⟨_,rfl⟩
  have hX2:eX (q0, [(3,n)])=X:=hX.symm
  rw [hX2]
  subst hX
  cbv
  repeat' first | with_reducible rfl | with_reducible refine And.intro ?_ ?_ | ((with_reducible intro hcc);first | (cases hcc;done) | skip) | ((with_reducible first | show goC _ _ _ _ _ _ _ _ | show goOps _ _ _ _ _ | show goD _ _ _ _ _ _);cbv) | ((with_reducible show okWr _ _=_);rfl) | ((with_reducible refine hA.alt _ _ (Or.inr ?_));cbv) | ((with_reducible refine hA.finv _ _ _ _ _ (finv_vecFs (t:=0) (es:= [[E.int 3,E.int n]]) rfl rfl ?_ ?_ ?_))) | ((with_reducible first | refine hA.fin_pl _ _ _ ?_ | refine hA.alt _ _ (Or.inl ?_));cbv) | (simp only [hA.lits];cbv)
  all_goals try simp only [hA.ar,inR,n_cast,Int.ofNat_eq_natCast,Option.getD_some,Option.getD_none] at *
  all_goals first
    | rfl
    | omega
    | (simp only [List.mem_singleton] at *;subst_vars;rfl)
    | (trace_state;fail))
theorem vec_tok {env:RF->List (Nat×D)} {q:Nat} {b:Bool} {k:Nat} {es:List E} (h1: ∀t,env t=renEnv t (env id)) (h2:ltEnv 2 (env id)=true):SideW env (fun _=> [.ids q,.vec b k (es.map .e)]):=
  ⟨h1,h2,fun t=>by simp only [List.map_cons,List.map_nil,O.ren,rens_e],by
    intro o ho
    simp only [List.mem_cons,List.not_mem_nil,or_false] at ho
    rcases ho with rfl | rfl <;>simp only [O.lt,lts_e]⟩
set_option maxRecDepth 100000 in
set_option maxHeartbeats 2000000 in
theorem n260 (q0:Nat) (l:List (List (Int×Int))) (es:List (List E)) (he:es=l.map orr) (hlen:es.length<=1048576) (hb2: ∀d∈l,d.length<=1048576):Proc Try.prog 99 (fun _=> [.e (.sl es)]) (fun _=> [.ids q0]) (fun _=> .e (eXs (nXs q0 l))) (fun _=> [.ids (q0+l.length+1)]):=procOf mixed p99 (NS.tok_side (es:= [.sl es])) fun A P hA hP=>(by
  have hl1:es.length=l.length:=by rw [he];simp
  obtain ⟨ts,hts⟩: ∃ts,ts=(numL nX one1 q0 l).map xrow:=⟨_,rfl⟩
  have htl:ts.length=es.length:=by rw [hts,hl1,List.length_map,numL_len]
  have htk: ∀e∈ts,e.length=1:=by
    rw [hts]
    intro e h
    obtain ⟨p,_,rfl⟩:=List.mem_map.1 h
    rfl
  obtain ⟨qe,hqe⟩: ∃q,q=q0+l.length:=⟨_,rfl⟩
  have hres:eXs (nXs q0 l)= .fs qe ts:=by rw [hqe,hts];rfl
  rw [hres,<-hqe]
  obtain ⟨ze,hze⟩: ∃z:Int,z=es.length:=⟨_,rfl⟩
  cbv
  repeat' first | with_reducible rfl | with_reducible refine And.intro ?_ ?_ | ((with_reducible intro hcc);first | (cases hcc;done) | skip) | ((with_reducible first | show goC _ _ _ _ _ _ _ _ | show goOps _ _ _ _ _ | show goD _ _ _ _ _ _);cbv) | ((with_reducible show okWr _ _=_);rfl) | ((with_reducible refine hA.len es _ _ _ _ fun z hz hb=>?_);(have e6:=hze.trans hz.symm);subst e6;cbv) | ((with_reducible first | refine hA.fin_pl _ _ _ ?_ | refine hA.len _ _ _ _ _ fun z hz hb=>?_ | refine hA.off _ _ _ _ fun b hb=>?_ | refine hA.alt _ _ (Or.inl ?_));cbv) | ((with_reducible first | refine hA.app _ _ _ _ _ ⟨?_,fun zs m hzs hm=>?_⟩ | refine hA.app0 _ _ _ ⟨?_,fun m hm=>?_⟩ | refine hA.appv _ _ _ _ _ _ ⟨?_,fun bb m ds hbb hm hds=>?_⟩ | refine hA.vcut _ _ _ _ ⟨?_,fun cs hcs=>?_⟩ | refine hA.appw _ _ _ _ _ _ _ ⟨?_,fun bb m ds hbb hm hds=>?_⟩ | refine hA.sapp _ _ _ ⟨?_,fun sl hsl=>?_⟩);rotate_left;cbv) | (simp only [hA.lits];cbv)
  all_goals try simp only [hA.ar,inR,n_cast,Int.ofNat_eq_natCast,Option.getD_some,Option.getD_none] at *
  all_goals try omega
  refine hA.loopI (fun n s=> ∃(i:Int) (qi:Nat) (xs:List (List E)) (ys:List E) (b:Bool) (m:Nat),0<=i/\n+i=es.length/\qi=q0+i.toNat/\xs=ts.take i.toNat/\ys=xs.flatten/\m=xs.length/\b=decide (0<m)/\
      s=⟨[(9,.int i),(8,.int ze),(7,.e (.sl es)),(3,.vec 1 m 1)], [.ids qi,.vec b 1 (ys.map .e)]⟩) es.length _
    ((Weak.zvec 3 1 rfl).trans (Weak.keep (env':= [(9,.int 0),(8,.int ze),(7,.e (.sl es)),(3,.vec 1 0 1)]) ⟨rfl,rfl,rfl,rfl,trivial⟩))
    ⟨0,q0, [], [],false,0,by omega,by omega,by omega,rfl,rfl,rfl,rfl,rfl⟩ ?_
  rintro n s K ⟨i,qi,xs,ys,b,m,h0,h1,hq,h2,hys,hm,hb,rfl⟩ hK
  have hxl:xs.length=i.toNat:=by rw [h2,List.length_take];omega
  have hxk: ∀e∈xs,e.length=1:=fun e h=>htk e (by rw [h2] at h;exact List.mem_of_mem_take h)
  have hyl:ys.length=m * 1:=by rw [hys,flatten_len hxk,hm]
  obtain ⟨dy,hdy⟩: ∃d,d=ys.map D.e:=⟨_,rfl⟩
  have hdl:dy.length=m * 1:=by rw [hdy,List.length_map,hyl]
  rw [<-hdy]
  by_cases hin:(0:Int)<=i/\i<es.length
  · have e1:A.lt i ze=true:=by rw [hA.lt];exact decide_eq_true (by omega)
    obtain ⟨r1,e2,q1⟩:=row_at he hin
    obtain ⟨x1,hx1⟩: ∃x,x=r1.map orow:=⟨_,rfl⟩
    have e2:es.getD i.toNat []= [E.sl x1]:=e2.trans (by rw [hx1])
    obtain ⟨qj,hqj⟩: ∃q,q=qi+1:=⟨_,rfl⟩
    obtain ⟨X1,hX1⟩: ∃X,X=eX (qi,r1):=⟨_,rfl⟩
    have h259:Proc Try.prog 98 (fun _=> [.e (.sl x1)]) (fun _=> [.ids qi]) (fun _=> .e X1) (fun _=> [.ids qj]):=by
      rw [hX1,hqj]
      exact n259 qi r1 x1 hx1 (by rw [hx1,List.length_map];exact hb2 r1 (List.mem_of_getElem? q1))
    have hrow:ts.take (i+1).toNat=xs++ [[X1]]:=by
      rw [show (i+1).toNat=i.toNat+1 by omega,List.take_add_one,<-h2,hts,List.getElem?_map,numL_get,q1,sum1,List.length_take,Nat.min_eq_left (by omega),<-hq,hX1]
      rfl
    have go: ∀(b':Bool) (m':Nat) (ds':List D) (j:Nat) (env:List (Nat×D)) (hp:List O),b'=(b || decide (0<([[X1]]:List (List E)).length))->m'=m+([[X1]]:List (List E)).length->ds'=dy.take (m * 1)++([[X1]]:List (List E)).flatten.map .e->hpF hp 0= .ids qj->hpF hp j= .vec b' 1 ds'->(ndB [0,j]&&firstB 1 [0,j] 0)=true->
        subW [(9,.int (i+1)),(8,.int ze),(7,.e (.sl es)),(3,.vec j m' 1)] env->K ⟨env,hp⟩:=fun b' m' ds' j env hp g1 g2 g3 g4 g5 g6 g7=>by
      have hds:ds'=(ys++ [X1]).map .e:=by
        rw [g3,List.take_of_length_le (by omega),hdy]
        simp
      refine hK _ (n-1) _ (by omega) (Weak.ren (l0:= [.ids q0]) [0,j] (fun t=> [(9,.int (i+1)),(8,.int ze),(7,.e (.sl es)),(3,.vec (t 1) m' 1)]) (fun _=> [.ids qj,.vec b' 1 ((ys++ [X1]).map .e)]) g6 g7 ⟨g4,by rw [g5,hds],trivial⟩ (vec_tok (fun t=>rfl) rfl))
        ⟨i+1,qj,xs++ [[X1]],ys++ [X1],b',m',by omega,by omega,by omega,hrow.symm,by rw [hys] <;>simp,by rw [g2,hm] <;>simp,by rw [g1,g2] <;>simp,rfl⟩
    clear hK hrow hts he hX1 hys h2 hdy
    cbv
    repeat' first | with_reducible rfl | (simp only [e1];cbv) | with_reducible refine And.intro ?_ ?_ | ((with_reducible intro hcc);first | (cases hcc;done) | skip) | ((with_reducible first | show goC _ _ _ _ _ _ _ _ | show goOps _ _ _ _ _ | show goD _ _ _ _ _ _);cbv) | ((with_reducible show okWr _ _=_);rfl) | ((with_reducible show A.call _ _ _ _ _ 98 _ _ _);have hc:=h259;refine callK_pr hA hP [0] (by rfl) (by exact ⟨rfl,trivial⟩) (Wks.refl _) ?_ (fun _ _=>hc) hc.side;cbv) | ((with_reducible refine hA.row es i _ ⟨hin,fun row hrow=>?_⟩);rw [e2] at hrow;subst hrow;cbv) | ((with_reducible first | refine hA.fin_pl _ _ _ ?_ | refine hA.len _ _ _ _ _ fun z hz hb=>?_ | refine hA.off _ _ _ _ fun b hb=>?_ | refine hA.alt _ _ (Or.inl ?_));cbv) | ((with_reducible first | refine hA.app _ _ _ _ _ ⟨?_,fun zs m hzs hm=>?_⟩ | refine hA.app0 _ _ _ ⟨?_,fun m hm=>?_⟩ | refine hA.appv _ _ _ _ _ _ ⟨?_,fun bb m ds hbb hm hds=>?_⟩ | refine hA.vcut _ _ _ _ ⟨?_,fun cs hcs=>?_⟩ | refine hA.appw _ _ _ _ _ _ _ ⟨?_,fun bb m ds hbb hm hds=>?_⟩ | refine hA.sapp _ _ _ ⟨?_,fun sl hsl=>?_⟩);rotate_left;cbv) | (simp only [hA.lits];cbv)
    all_goals try simp only [hA.ar,inR,n_cast,Int.ofNat_eq_natCast,Option.getD_some,Option.getD_none] at *
    all_goals first
      | omega
      | exact go _ _ _ _ _ _ (by assumption) (by assumption) (by assumption) rfl rfl rfl ⟨.inl rfl,.inl rfl,.inl rfl,.inl rfl,trivial⟩
      | exact ⟨rfl,trivial⟩
      | (simp only [List.length_cons,List.length_nil];omega)
      | (trace_state;fail)
  · have e1:A.lt i ze=false:=by rw [hA.lt];exact decide_eq_false (by omega)
    have hxe:xs=ts:=by rw [h2];exact List.take_of_length_le (by omega)
    have hqq:qi=qe:=by omega
    subst hqq hxe
    clear hK h2
    cbv
    repeat' first | with_reducible rfl | (simp only [e1];cbv) | with_reducible refine And.intro ?_ ?_ | ((with_reducible intro hcc);first | (cases hcc;done) | skip) | ((with_reducible first | show goC _ _ _ _ _ _ _ _ | show goOps _ _ _ _ _ | show goD _ _ _ _ _ _);cbv) | ((with_reducible show okWr _ _=_);rfl) | ((with_reducible refine hA.finv _ _ _ _ _ (finv_vecFs (t:=0) (es:=xs) rfl rfl ?_ ?_ htk))) | ((with_reducible first | refine hA.fin_pl _ _ _ ?_ | refine hA.len _ _ _ _ _ fun z hz hb=>?_ | refine hA.off _ _ _ _ fun b hb=>?_ | refine hA.alt _ _ (Or.inl ?_));cbv) | ((with_reducible first | refine hA.app _ _ _ _ _ ⟨?_,fun zs m hzs hm=>?_⟩ | refine hA.app0 _ _ _ ⟨?_,fun m hm=>?_⟩ | refine hA.appv _ _ _ _ _ _ ⟨?_,fun bb m ds hbb hm hds=>?_⟩ | refine hA.vcut _ _ _ _ ⟨?_,fun cs hcs=>?_⟩ | refine hA.appw _ _ _ _ _ _ _ ⟨?_,fun bb m ds hbb hm hds=>?_⟩ | refine hA.sapp _ _ _ ⟨?_,fun sl hsl=>?_⟩);rotate_left;cbv) | (simp only [hA.lits];cbv)
    all_goals try simp only [hA.ar,inR,n_cast,Int.ofNat_eq_natCast,Option.getD_some,Option.getD_none] at *
    all_goals first
      | omega
      | exact hm.symm
      | (rw [hdy,hys,List.take_of_length_le];rw [List.length_map,flatten_len htk,hm];exact Nat.le_refl _)
      | (trace_state;fail))
end Go.Proofs.Ytfplalbognalkaa.Ab
/- What an expression asks, by the program. -/
namespace Go.Proofs.Ytfplalbognalkaa.Ab
open Go
set_option maxRecDepth 100000 in
set_option maxHeartbeats 4000000 in
theorem ok100 (k1 n1:Int) (rest:List (Int×Int)) (xe:List (List E)) (hxe:xe=((k1,n1)::rest).map orow) (hxl:xe.length<=1048576) (m:Int):Plain Try.prog 100 [.e (.sl xe),.int m] (.int (exAskI ((k1,n1)::rest) m)):=okOf mixed p100 fun A P hA hP=>(by
  have hxel:xe.length=rest.length+1:=by rw [hxe,List.length_map,List.length_cons]
  obtain ⟨zx,hzx⟩: ∃z:Int,z=xe.length:=⟨_,rfl⟩
  have e5:A.lt zx 1=false:=by rw [hA.lt];exact decide_eq_false (by omega)
  have hin0:(0:Int)<=0/\(0:Int)<xe.length:=⟨by omega,by omega⟩
  have hrx0:xe.getD (0:Int).toNat []= [E.int k1,E.int n1]:=by rw [hxe];rfl
  obtain ⟨b1,hb1⟩: ∃b,b=A.eq k1 3:=⟨_,rfl⟩
  obtain ⟨b2,hb2⟩: ∃b,b=A.eq n1 m:=⟨_,rfl⟩
  have hb1':b1=decide (k1=3):=by rw [hb1,hA.eq]
  have hb2':b2=decide (n1=m):=by rw [hb2,hA.eq]
  match rest,hxe,hxel with
  | [],hxe,hxel=>
    have e6:A.lt 2 zx=false:=by rw [hA.lt];exact decide_eq_false (by rw [hzx,hxel];decide)
    have e7:A.eq zx 1=true:=by rw [hA.eq];exact decide_eq_true (by rw [hzx,hxel];rfl)
    have hr:exAskI [(k1,n1)] m=if b1&&b2 then 1 else 0:=by
      rw [hb1',hb2']
      simp [exAskI]
    rw [hr]
    clear hr hxe hb1' hb2'
    cases b1 <;>cases b2
    all_goals
      simp only [Bool.and_true,Bool.and_false,Bool.false_eq_true,if_false,if_true,Bool.and_self]
      cbv
      repeat' first | with_reducible rfl | (simp only [e5,e6,e7,<-hb1,<-hb2];cbv) | with_reducible refine And.intro ?_ ?_ | ((with_reducible intro hcc);first | (cases hcc;done) | skip) | ((with_reducible first | show goC _ _ _ _ _ _ _ _ | show goOps _ _ _ _ _ | show goD _ _ _ _ _ _);cbv) | ((with_reducible show okWr _ _=_);rfl) | ((with_reducible refine hA.len xe _ _ _ _ fun z hz hb=>?_);(have e6:=hzx.trans hz.symm);subst e6;cbv) | ((with_reducible refine hA.row xe 0 _ ⟨hin0,fun row hrow=>?_⟩);rw [hrx0] at hrow;subst hrow;cbv) | ((with_reducible first | refine hA.fin_pl _ _ _ ?_ | refine hA.len _ _ _ _ _ fun z hz hb=>?_ | refine hA.off _ _ _ _ fun b hb=>?_ | refine hA.alt _ _ (Or.inl ?_) | refine hA.gb0 true _ ?_ | refine hA.gb0 false _ ?_ | refine hA.gb _ _ fun vb hvb=>?_);cbv) | (simp only [hA.lits];cbv)
      all_goals try simp only [hA.ar,inR,n_cast,Int.ofNat_eq_natCast,Option.getD_some,Option.getD_none] at *
    all_goals first
      | omega
      | rfl
      | (trace_state;fail)
  | [(k2,n2)],hxe,hxel=>
    have hxel:xe.length=2:=hxel
    have e6:A.lt 2 zx=false:=by rw [hA.lt];exact decide_eq_false (by omega)
    have e7:A.eq zx 1=false:=by rw [hA.eq];exact decide_eq_false (by omega)
    have hin1:(0:Int)<=1/\(1:Int)<xe.length:=⟨by omega,by omega⟩
    have hrx1:xe.getD (1:Int).toNat []= [E.int k2,E.int n2]:=by rw [hxe];rfl
    obtain ⟨b3,hb3⟩: ∃b,b=A.eq k2 7:=⟨_,rfl⟩
    obtain ⟨b4,hb4⟩: ∃b,b=A.eq n2 0:=⟨_,rfl⟩
    have hb3':b3=decide (k2=7):=by rw [hb3,hA.eq]
    have hb4':b4=decide (n2=0):=by rw [hb4,hA.eq]
    have hr:exAskI [(k1,n1),(k2,n2)] m=if (b1&&b2)&&(b3&&b4) then 2 else 0:=by
      rw [hb1',hb2',hb3',hb4']
      simp [exAskI]
    rw [hr]
    clear hr hxe hb1' hb2' hb3' hb4'
    cases b1 <;>cases b2 <;>cases b3 <;>cases b4
    all_goals
      simp only [Bool.and_true,Bool.and_false,Bool.false_eq_true,if_false,if_true,Bool.and_self]
      cbv
      repeat' first | with_reducible rfl | (simp only [e5,e6,e7,<-hb1,<-hb2,<-hb3,<-hb4];cbv) | with_reducible refine And.intro ?_ ?_ | ((with_reducible intro hcc);first | (cases hcc;done) | skip) | ((with_reducible first | show goC _ _ _ _ _ _ _ _ | show goOps _ _ _ _ _ | show goD _ _ _ _ _ _);cbv) | ((with_reducible show okWr _ _=_);rfl) | ((with_reducible refine hA.len xe _ _ _ _ fun z hz hb=>?_);(have e6:=hzx.trans hz.symm);subst e6;cbv) | ((with_reducible refine hA.row xe 0 _ ⟨hin0,fun row hrow=>?_⟩);rw [hrx0] at hrow;subst hrow;cbv) | ((with_reducible refine hA.row xe 1 _ ⟨hin1,fun row hrow=>?_⟩);rw [hrx1] at hrow;subst hrow;cbv) | ((with_reducible first | refine hA.fin_pl _ _ _ ?_ | refine hA.len _ _ _ _ _ fun z hz hb=>?_ | refine hA.off _ _ _ _ fun b hb=>?_ | refine hA.alt _ _ (Or.inl ?_) | refine hA.gb0 true _ ?_ | refine hA.gb0 false _ ?_ | refine hA.gb _ _ fun vb hvb=>?_);cbv) | (simp only [hA.lits];cbv)
      all_goals try simp only [hA.ar,inR,n_cast,Int.ofNat_eq_natCast,Option.getD_some,Option.getD_none] at *
    all_goals first
      | omega
      | rfl
      | (trace_state;fail)
  | _::_::rest3,hxe,hxel=>
    have e6:A.lt 2 zx=true:=by rw [hA.lt];exact decide_eq_true (by rw [hzx,hxel,List.length_cons,List.length_cons];omega)
    rename_i p q
    have hr:exAskI ((k1,n1)::p::q::rest3) m=0:=rfl
    rw [hr]
    clear hr hxe hb1' hb2'
    cbv
    repeat' first | with_reducible rfl | (simp only [e5,e6];cbv) | with_reducible refine And.intro ?_ ?_ | ((with_reducible intro hcc);first | (cases hcc;done) | skip) | ((with_reducible first | show goC _ _ _ _ _ _ _ _ | show goOps _ _ _ _ _ | show goD _ _ _ _ _ _);cbv) | ((with_reducible show okWr _ _=_);rfl) | ((with_reducible refine hA.len xe _ _ _ _ fun z hz hb=>?_);(have e6:=hzx.trans hz.symm);subst e6;cbv) | ((with_reducible refine hA.row xe 0 _ ⟨hin0,fun row hrow=>?_⟩);rw [hrx0] at hrow;subst hrow;cbv) | ((with_reducible first | refine hA.fin_pl _ _ _ ?_ | refine hA.len _ _ _ _ _ fun z hz hb=>?_ | refine hA.off _ _ _ _ fun b hb=>?_ | refine hA.alt _ _ (Or.inl ?_) | refine hA.gb0 true _ ?_ | refine hA.gb0 false _ ?_ | refine hA.gb _ _ fun vb hvb=>?_);cbv) | (simp only [hA.lits];cbv)
    all_goals try simp only [hA.ar,inR,n_cast,Int.ofNat_eq_natCast,Option.getD_some,Option.getD_none] at *
    all_goals first
      | omega
      | rfl
      | (trace_state;fail))
end Go.Proofs.Ytfplalbognalkaa.Ab
/- A slice that stands in a cell gets a number. -/
namespace Go.Proofs.Ytfplalbognalkaa.Ab
open Go
theorem seal_cell {w:World} {G:Gh} {h h':Hp} {t m i n k i0 k0 j0:Nat} {b:Bool} {ds ds0:List D} {es:List (List E)} (hi:Inv w G h) (ht:h t= .ids m) (hv:h i= .vec b k ds) (hv0:h i0= .vec true k0 ds0) (hne:i≠i0) (hj:ds0[j0]?=some (.vec i n k))
    (hn:es.length=n) (hds:ds.take (n * k)=es.flatten.map .e) (hk: ∀e∈es,e.length=k)
    (hh: ∀j,h' j=if j=t then .ids (m+1) else if j=i then .gone else if j=i0 then .vec true k0 (ds0.set j0 (.e (.fs m es))) else h j): ∃G',Inv w G' h'/\Ext w G h w G' h':=by
  have hti:t≠i:=fun e=>by rw [e,hv] at ht;cases ht
  have hti0:t≠i0:=fun e=>by rw [e,hv0] at ht;cases ht
  have ht':h' t= .ids (m+1):=by rw [hh,if_pos rfl]
  have hi':h' i= .gone:=by rw [hh,if_neg (Ne.symm hti),if_pos rfl]
  have hi0':h' i0= .vec true k0 (ds0.set j0 (.e (.fs m es))):=by rw [hh,if_neg (Ne.symm hti0),if_neg (Ne.symm hne),if_pos rfl]
  have oth: ∀ {j},j≠t->j≠i->j≠i0->h' j=h j:=fun {j} a b c=>by rw [hh,if_neg a,if_neg b,if_neg c]
  have same: ∀ {j o},h j=o->(∀m,o≠ .ids m)->(∀b k ds,o≠ .vec b k ds)->h' j=o:=fun {j o} e q1 q2=>by
    rw [oth (fun q=>by subst q;rw [ht] at e;exact q1 _ e.symm) (fun q=>by subst q;rw [hv] at e;exact q2 _ _ _ e.symm) (fun q=>by subst q;rw [hv0] at e;exact q2 _ _ _ e.symm)]
    exact e
  have back: ∀ {j o},h' j=o->(∀m,o≠ .ids m)->(∀b k ds,o≠ .vec b k ds)->o≠ .gone->h j=o:=fun {j o} e q1 q2 q3=>by
    rw [<-oth (fun q=>by subst q;rw [ht'] at e;exact q1 _ e.symm) (fun q=>by subst q;rw [hi'] at e;exact q3 e.symm) (fun q=>by subst q;rw [hi0'] at e;exact q2 _ _ _ e.symm)]
    exact e
  have has: ∀ {j},(h' j).has=true->j≠i/\(h j).has=true:=fun {j} e=>by
    by_cases q1:j=i
    · subst q1;rw [hi'] at e;cases e
    · refine ⟨q1,?_⟩
      by_cases q2:j=t
      · subst q2;rw [ht'] at e;cases e
      · by_cases q3:j=i0
        · subst q3;rw [hv0];rfl
        · rw [<-oth q2 q1 q3];exact e
  have ids: ∀ {j q},h' j= .ids q->j=t/\q=m+1:=fun {j q} e=>by
    by_cases q2:j=t
    · subst q2;rw [ht'] at e;cases e;exact ⟨rfl,rfl⟩
    · by_cases q1:j=i
      · subst q1;rw [hi'] at e;cases e
      · by_cases q3:j=i0
        · subst q3;rw [hi0'] at e;cases e
        · rw [oth q2 q1 q3] at e
          exact absurd (hi.x.idu j t _ _ e ht) q2
  obtain ⟨G',hG,hblk,hrv,hrb,hpub,hsg,hsgm⟩: ∃G':Gh,((b=true/\G'.pub=(fun x o=>G.pub x o\/(x=G.blk i/\o<n * k))/\(∃cs T,w.heap[G.blk i]?=some (.cells cs T (0,0))/\G'.sg m=some (G.blk i,cs.size)))\/(b=false/\G'=G))/\G'.blk=G.blk/\G'.rv=G.rv/\G'.rb=G.rb/\
      (∀x o,G'.pub x o->G.pub x o\/(b=true/\x=G.blk i/\o<n * k))/\(∀j c,G'.sg j=some c->G.sg j=some c\/(b=true/\j=m/\c.1=G.blk i/\ ∃cs T,w.heap[G.blk i]?=some (.cells cs T (0,0))/\c.2=cs.size))/\ ∀j c,G.sg j=some c->G'.sg j=some c:=by
    cases b with
    | true=>
      obtain ⟨_,cs,T,hcs,_⟩:=(hi.vec i _ _ _ hv).2 rfl
      refine ⟨G.seal (G.blk i) (n * k) m cs.size,.inl ⟨rfl,rfl,cs,T,hcs,if_pos rfl⟩,rfl,rfl,rfl,fun x o p=>?_,fun j c e=>?_,fun j c e=>?_⟩
      · rcases p with p | p
        · exact .inl p
        · exact .inr ⟨rfl,p⟩
      · have e:(if j=m then some (G.blk i,cs.size) else G.sg j)=some c:=e
        split at e
        · cases e;exact .inr ⟨rfl,by assumption,rfl,cs,T,hcs,rfl⟩
        · exact .inl e
      · show (if j=m then _ else _)=_
        rw [if_neg (fun q=>by rw [hi.x.ids t m ht j (by omega)] at e;cases e)]
        exact e
    | false=>exact ⟨G,.inr ⟨rfl,rfl⟩,rfl,rfl,rfl,fun _ _ p=> .inl p,fun _ _ e=> .inl e,fun _ _ e=>e⟩
  have hhas:b=true->(h i).has=true:=fun e=>by rw [hv];exact e
  have pm: ∀x o,G.pub x o->G'.pub x o:=fun x o p=>by
    rcases hG with ⟨_,e,_⟩ | ⟨_,e⟩
    · rw [e];exact .inl p
    · rw [e];exact p
  have ext:Ext w G h w G' h':= {
    os:=rfl
    tape:=rfl
    output:=rfl
    size:=Nat.le_refl _
    pub:=fun x o p=>⟨pm x o p,rfl⟩
    box:=fun j ds e=>⟨⟨ds,same e (by simp) (by simp),rfl⟩,by rw [hblk]⟩
    tok:=fun j n k e=>⟨n,same e (by simp) (by simp),Nat.le_refl _,fun _ _=>⟨by rw [hblk],rfl⟩⟩
    others:=fun _ _ _ _=>rfl
    new:=fun j e=> .inl ⟨j,(has e).2,by rw [hblk]⟩
    pubnew:=fun x o p=>by
      rcases hpub x o p with p | ⟨e,rfl,_⟩
      · exact .inl p
      · exact .inr (.inr ⟨i,hhas e,rfl⟩)
    vec:=fun j b2 k2 ds2 e=>by
      by_cases q1:j=i
      · exact .inl (by rw [q1];exact hi')
      · by_cases q3:j=i0
        · subst q3
          rw [hv0] at e
          cases e
          exact .inr ⟨_,hi0',by simp,fun _=>⟨by rw [hblk],rfl⟩⟩
        · exact .inr ⟨ds2,by rw [oth (fun q=>by subst q;rw [ht] at e;cases e) q1 q3];exact e,Nat.le_refl _,fun _=>⟨by rw [hblk],rfl⟩⟩
    gone:=fun j e=>same e (by simp) (by simp)
    smap:=fun j l e=>⟨⟨l,same e (by simp) (by simp)⟩,by rw [hblk]⟩
    sgm:=hsgm
    idm:=fun j q e=>⟨m+1,by rw [hi.x.idu j t _ _ e ht];exact ht'⟩
    rvm:=fun j R e=>⟨⟨R,same e (by simp) (by simp)⟩,by rw [hrv]⟩
    rbnew:=fun j R e x hx=> .inl ⟨j,R,back e (by simp) (by simp) (by simp),by rw [<-hrb];exact hx⟩
    idn:=fun _ _ _=>⟨t,m,ht⟩
    sgn:=fun q=>absurd ht (q t m)
    sgw:=fun j c e=>by
      rcases hsg j c e with e | ⟨e1,_,e2,_⟩
      · exact .inl e
      · exact .inr (.inr ⟨i,hhas e1,e2.symm⟩)}
  have npub: ∀ {j},j≠i->(h j).has=true-> ∀o,G'.pub (G.blk j) o->G.pub (G.blk j) o:=fun {j} q e o p=>by
    rcases hpub _ _ p with p | ⟨e1,e2,_⟩
    · exact p
    · exact absurd (hi.inj j i e (hhas e1) e2) q
  have cell: ∀ {c:Value},Rv w G h c (.vec i n k)->RvE w G' c (.fs m es):=fun {c} r=>by
    obtain ⟨a,cap,rfl,_,hm,hnc,hvo⟩:=rv_vec r
    obtain ⟨_,hlen,hff,htt⟩:=hvo _ _ _ hv
    rcases hG with ⟨hb,hp,cs,T,hcs,hs⟩ | ⟨hb,_⟩
    · subst hb
      obtain ⟨rfl,cs2,T2,fr2,hcs2,hcap⟩:=htt rfl
      have hcap:cap * k<=cs.size:=by rw [hcs] at hcs2;cases hcs2;exact hcap
      obtain ⟨uu,hu1,hu2⟩:=vec_cells hi hv
      have hfl:es.flatten.length=n * k:=by rw [flatten_len hk,hn]
      refine .fs (k:=k) (z:=cs.size) uu hs hcap hn hnc hm hk (fun j hj=>?_) (fun j d hd=>?_)
      · rw [Nat.zero_add]
        exact ⟨by rw [hp];exact .inr ⟨rfl,hj⟩,hu1 j (by omega)⟩
      · have hjl:j<n * k:=by rw [<-hfl];exact (List.getElem?_eq_some_iff.1 hd).1
        exact (rv_e (hu2 j (.e d) (take_get hds hd hjl)).1).mono ext.pub ext.sgm
    · subst hb
      obtain ⟨rfl,rfl,_⟩:=hff rfl
      have:es= []:=List.length_eq_zero_iff.1 hn
      subst this
      exact .fnils fun _=>rfl
  refine ⟨G',⟨fun j e=>by rw [hblk];exact hi.lt j (has e).2,fun a c e1 e2 e3=>hi.inj a c (has e1).2 (has e2).2 (by rw [hblk] at e3;exact e3),fun x o p=>?_,fun j ds e=>?_,fun j n k e hn0=>?_,fun j b2 k2 ds2 e=>?_,fun j l e=>?_,
    ⟨fun j c e=>?_,fun j q c c' e1 e2 e3=>?_,fun j q e a ha=>?_,fun j q a a' e1 e2=>(ids e1).1.trans (ids e2).1.symm,fun j R e=>?_⟩⟩,ext⟩
  · rcases hpub x o p with p | ⟨e,rfl,_⟩
    · exact hi.publt x o p
    · exact hi.lt i (hhas e)
  · have e0:=back e (by simp) (by simp) (by simp)
    obtain ⟨a1,cs,T,a2,a3,a4⟩:=hi.box j ds e0
    have hj':=has (j:=j) (by rw [e];rfl)
    rw [hblk]
    exact ⟨fun o p=>a1 o (npub hj'.1 hj'.2 o p),cs,T,a2,a3,fun q c d hc hd=>⟨(a4 q c d hc hd).1.ext ext,(a4 q c d hc hd).2⟩⟩
  · have e0:=back e (by simp) (by simp) (by simp)
    obtain ⟨a1,a2⟩:=hi.front j n k e0 hn0
    have hj':=has (j:=j) (by rw [e];simp [O.has,hn0])
    rw [hblk]
    exact ⟨a1,fun o ho p=>a2 o ho (npub hj'.1 hj'.2 o p)⟩
  · by_cases q3:j=i0
    · subst q3
      rw [hi0'] at e
      cases e
      refine ⟨fun hb=>(by cases hb),fun _=>?_⟩
      obtain ⟨a1,cs,T,a2,a3,a4⟩:=(hi.vec j true _ _ hv0).2 rfl
      have hj':=has (j:=j) (by rw [hi0'];rfl)
      rw [hblk]
      refine ⟨fun o p=>a1 o (npub hj'.1 hj'.2 o p),cs,T,a2,by rw [List.length_set];exact a3,fun q c d hc hd=>?_⟩
      by_cases q0:q=j0
      · subst q0
        rw [List.getElem?_set_self (List.getElem?_eq_some_iff.1 hj).1] at hd
        cases hd
        obtain ⟨r1,r2⟩:=a4 q c _ hc hj
        exact ⟨.e (cell r1),r2⟩
      · rw [List.getElem?_set_ne (Ne.symm q0)] at hd
        exact ⟨(a4 q c d hc hd).1.ext ext,(a4 q c d hc hd).2⟩
    · have q1:j≠i:=fun q=>by subst q;rw [hi'] at e;cases e
      have q2:j≠t:=fun q=>by subst q;rw [ht'] at e;cases e
      rw [oth q2 q1 q3] at e
      obtain ⟨a0,a⟩:=hi.vec j b2 k2 ds2 e
      refine ⟨a0,fun hb=>?_⟩
      obtain ⟨a1,cs,T,a2,a3,a4⟩:=a hb
      rw [hblk]
      exact ⟨fun o p=>a1 o (npub q1 (by rw [e];exact hb) o p),cs,T,a2,a3,fun q c d hc hd=>⟨(a4 q c d hc hd).1.ext ext,(a4 q c d hc hd).2⟩⟩
  · have e0:=back e (by simp) (by simp) (by simp)
    obtain ⟨a1,es2,ck,a2,a3,a4⟩:=hi.smap j l e0
    have hj':=has (j:=j) (by rw [e];rfl)
    rw [hblk]
    exact ⟨fun o p=>a1 o (npub hj'.1 hj'.2 o p),es2,ck,a2,a3,fun q e p a b=>⟨(a4 q e p a b).1,(a4 q e p a b).2.mono ext.pub ext.sgm⟩⟩
  · rw [hblk]
    rcases hsg j c e with e | ⟨e1,_,e2,cs,T,e3,e4⟩
    · obtain ⟨a,b',c'⟩:=hi.x.sgs j c e
      exact ⟨a,fun q hq=>b' q (has hq).2,c'⟩
    · rw [e2,e4]
      exact ⟨hi.lt i (hhas e1),fun q hq e5=>(has hq).1 (hi.inj q i (has hq).2 (hhas e1) e5),cs,T,e3,Nat.le_refl _⟩
  · rcases hsg j c e1 with a | ⟨a1,a2,a3,_⟩ <;>rcases hsg q c' e2 with a' | ⟨a1',a2',a3',_⟩
    · exact hi.x.sgi j q c c' a a' e3
    · exact absurd (a3'.symm.trans e3.symm) ((hi.x.sgs j c a).2.1 i (hhas a1'))
    · exact absurd (a3.symm.trans e3) ((hi.x.sgs q c' a').2.1 i (hhas a1))
    · omega
  · obtain ⟨_,rfl⟩:=ids e
    cases hq:G'.sg a with
    | none=>rfl
    | some c=>
      rcases hsg a c hq with q | ⟨_,q,_⟩
      · rw [hi.x.ids t m ht a (by omega)] at q;cases q
      · omega
  · have e0:=back e (by simp) (by simp) (by simp)
    obtain ⟨a,c⟩:=hi.x.res j R e0
    rw [hrv,hrb]
    refine ⟨a,fun x hx=>?_⟩
    obtain ⟨c1,c2,c3,c4,c5⟩:=c x hx
    refine ⟨c1,fun o p=>?_,fun q c' eq=>?_,fun q hq=>by rw [hblk];exact c4 q (has hq).2,fun q R' eq=>c5 q R' (back eq (by simp) (by simp) (by simp))⟩
    · rcases hpub x o p with p | ⟨e1,e2,_⟩
      · exact c2 o p
      · exact c4 i (hhas e1) e2.symm
    · rcases hsg q c' eq with eq | ⟨e1,_,e2,_⟩
      · exact c3 q c' eq
      · rw [e2];exact c4 i (hhas e1)
theorem Weak.seal {h0:Hp} {env:List (Nat×D)} {hp:List O} {t m i n k i0 k0 j0:Nat} {b:Bool} {ds ds0:List D} {es:List (List E)} (ht:hpF hp t= .ids m) (hv:hpF hp i= .vec b k ds) (hv0:hpF hp i0= .vec true k0 ds0) (hne:i≠i0) (hj:ds0[j0]?=some (.vec i n k))
    (hn:es.length=n) (hds:ds.take (n * k)=es.flatten.map .e) (hk: ∀e∈es,e.length=k):
    Weak h0 ⟨env,hp⟩ ⟨env,((hp.set i0 (.vec true k0 (ds0.set j0 (.e (.fs m es))))).set i .gone).set t (.ids (m+1))⟩:=fun w G hi=>by
  have lt: ∀ {j o},hpF hp j=o->o≠ .dead->j<hp.length:=fun {j o} e q=>by
    rcases Nat.lt_or_ge j hp.length with p | p
    · exact p
    · rw [hpF_ge p] at e;exact absurd e.symm q
  obtain ⟨G',i',x'⟩:=seal_cell (h':=hpF (((hp.set i0 (.vec true k0 (ds0.set j0 (.e (.fs m es))))).set i .gone).set t (.ids (m+1)))) hi ht hv hv0 hne hj hn hds hk fun j=>by
    rw [hpF_seti (by simp;exact lt ht (by simp)),hpF_seti (by simp;exact lt hv (by simp)),hpF_seti (lt hv0 (by simp))]
  exact ⟨G',i',fun _ _ e=>e.trans x',fun t' d' hd=>⟨d',hd,fun v r=>r.ext x'⟩⟩
end Go.Proofs.Ytfplalbognalkaa.Ab
/- The program's simplified plans, with numbers: the plain law. -/
namespace Go.Proofs.Ytfplalbognalkaa.Ab
open Go
def xNums (x:Nx):List Nat:=if x.2= [] then [] else [x.1]
def xsNums (x:Nxs):List Nat:=if x.2= [] then [] else x.1::x.2.flatMap xNums
def fNums (n:Nf):List Nat:=xNums n.Ex++xsNums n.Exs
theorem numss_orow: ∀l:List (Int×Int),numss (l.map orow)=some []
  | []=>rfl
  | p::l=>by
    simp only [List.map_cons,numss,numss_orow l]
    rfl
theorem eX_nums (x:Nx):(eX x).nums=some (xNums x):=by
  obtain ⟨q,l⟩:=x
  unfold eX xNums
  cases l with
  | nil=>rfl
  | cons p l=>
    rw [if_neg (by simp),NS.nums_ne (by simp),numss_orow]
    rfl
theorem xrow_nums: ∀L:List Nx,numss (L.map xrow)=some (L.flatMap xNums)
  | []=>rfl
  | x::L=>by
    simp only [List.map_cons,numss,numsr,eX_nums,xrow_nums L,List.flatMap_cons,List.append_nil]
theorem eXs_nums (x:Nxs):(eXs x).nums=some (xsNums x):=by
  obtain ⟨q,L⟩:=x
  unfold eXs xsNums
  cases L with
  | nil=>rfl
  | cons p l=>
    rw [if_neg (by simp),NS.nums_ne (by simp),xrow_nums]
    rfl
theorem nfr_nums: ∀L:List Nf,numss (L.map nfr)=some (L.map fNums).flatten
  | []=>rfl
  | n::L=>by
    simp only [List.map_cons,numss,numsr,eX_nums,eXs_nums,nfr_nums L,E.nums,List.flatten_cons,List.append_nil,List.nil_append,fNums]
def NumOk (L:List Nf) (q:Nat):Prop:=(L.map fNums).flatten.Nodup/\ ∀n∈(L.map fNums).flatten,n<q
theorem eFs_nums {L:List Nf} {q i:Nat} (h:NumOk L q) (hi:q<=i): ∃ns,(eFs i L).nums=some ns/\ns.Nodup:=by
  unfold eFs
  cases L with
  | nil=>exact ⟨[],rfl,List.nodup_nil⟩
  | cons n L=>
    refine ⟨i::((n::L).map fNums).flatten,?_,List.nodup_cons.2 ⟨fun hm=>?_,h.1⟩⟩
    · rw [NS.nums_ne (by simp),nfr_nums]
      rfl
    · have:=h.2 i hm;omega
theorem NumOk.set {L:List Nf} {q q' j:Nat} {n:Nf} (h:NumOk L q) (hq:q<=q') (nd:(fNums n).Nodup) (hb: ∀k∈fNums n,(∃m,L[j]?=some m/\k∈fNums m)\/(q<=k/\k<q')):NumOk (L.set j n) q':=by
  unfold NumOk
  rw [List.map_set]
  refine ⟨nodup_set (N:=q) h.1 nd (fun k hk=>?_) h.2,fun k hk=>?_⟩
  · rcases hb k hk with ⟨m,h1,h2⟩ | h1
    · refine .inl ?_
      rw [List.getD,List.getElem?_map,h1]
      exact h2
    · exact .inr h1.1
  · rcases mem_set_flat hk with hk | hk
    · rcases hb k hk with ⟨m,h1,h2⟩ | h1
      · have:=h.2 k (List.mem_flatten.2 ⟨fNums m,List.mem_map.2 ⟨m,List.mem_of_getElem? h1,rfl⟩,h2⟩)
        omega
      · exact h1.2
    · have:=h.2 k hk;omega
theorem numL_x (q:Nat): ∀l:List (List (Int×Int)),∃ns,(numL nX one1 q l).flatMap xNums=ns/\ns.Nodup/\ ∀k∈ns,q<=k/\k<q+l.length
  | []=>⟨[],rfl,List.nodup_nil,fun k h=>by cases h⟩
  | e::l=>by
    obtain ⟨ns,h1,h2,h3⟩:=numL_x (q+1) l
    refine ⟨xNums (nX q e)++ns,?_,?_,?_⟩
    · rw [numL,List.flatMap_cons,show q+one1 e=q+1 from rfl,h1]
    · rw [List.nodup_append]
      refine ⟨?_,h2,fun a ha b hb=>?_⟩
      · unfold xNums;split <;>simp
      · have ha:a=q:=by
          unfold xNums at ha
          split at ha
          · cases ha
          · simpa [nX] using ha
        have:=h3 b hb
        omega
    · intro k hk
      rcases List.mem_append.1 hk with ha | hb
      · have ha:k=q:=by
          unfold xNums at ha
          split at ha
          · cases ha
          · simpa [nX] using ha
        simp only [List.length_cons]
        omega
      · have:=h3 k hb
        simp only [List.length_cons]
        omega
theorem nXs_nums (q:Nat) (l:List (List (Int×Int))):(xsNums (nXs q l)).Nodup/\ ∀k∈xsNums (nXs q l),q<=k/\k<q+l.length+1:=by
  obtain ⟨ns,h1,h2,h3⟩:=numL_x q l
  unfold xsNums nXs
  simp only
  split
  · exact ⟨List.nodup_nil,fun k h=>by cases h⟩
  · rw [h1]
    refine ⟨List.nodup_cons.2 ⟨fun h=>by have:=h3 _ h;omega,h2⟩,fun k hk=>?_⟩
    rcases List.mem_cons.1 hk with rfl | hk
    · omega
    · have:=h3 k hk;omega
theorem nF_nums (q:Nat) (d:Fd):(fNums (nF q d)).Nodup/\ ∀k∈fNums (nF q d),q<=k/\k<q+sF d:=by
  obtain ⟨h1,h2⟩:=nXs_nums (q+1) d.Exs
  have h0: ∀k∈xNums (nX q d.Ex),k=q:=fun k hk=>by
    unfold xNums at hk
    split at hk
    · cases hk
    · simpa [nX] using hk
  unfold fNums nF sF
  simp only
  refine ⟨List.nodup_append.2 ⟨?_,h1,fun a ha b hb=>?_⟩,fun k hk=>?_⟩
  · unfold xNums;split <;>simp
  · have:=h0 a ha;have:=h2 b hb;omega
  · rcases List.mem_append.1 hk with hk | hk
    · have:=h0 k hk;omega
    · have:=h2 k hk;omega
theorem numF_ok (q:Nat): ∀l:List Fd,((numL nF sF q l).map fNums).flatten.Nodup/\ ∀n∈((numL nF sF q l).map fNums).flatten,q<=n/\n<q+sumN sF l
  | []=>⟨List.nodup_nil,fun n h=>by cases h⟩
  | d::l=>by
    obtain ⟨h1,h2⟩:=nF_nums q d
    obtain ⟨h3,h4⟩:=numF_ok (q+sF d) l
    simp only [numL,List.map_cons,List.flatten_cons,sumN]
    refine ⟨List.nodup_append.2 ⟨h1,h3,fun a ha b hb=>?_⟩,fun n hn=>?_⟩
    · have:=h2 a ha;have:=h4 b hb;omega
    · rcases List.mem_append.1 hn with hn | hn
      · have:=h2 n hn;omega
      · have:=h4 n hn;omega
theorem nF_d (q:Nat) (d:Fd):(nF q d).d=d:=by
  obtain ⟨K,T,M,W,Ex,Exs,L,R⟩:=d
  simp only [nF,Nf.d,nX,nXs,Fd.mk.injEq,true_and,and_true]
  have: ∀(q:Nat) (l:List (List (Int×Int))),(numL nX one1 q l).map Prod.snd=l:=fun q l=>by
    induction l generalizing q with
    | nil=>rfl
    | cons a l ih=>rw [numL,List.map_cons,ih];rfl
  exact this _ _
theorem numF_d (q:Nat): ∀l:List Fd,(numL nF sF q l).map Nf.d=l
  | []=>rfl
  | d::l=>by rw [numL,List.map_cons,nF_d,numF_d _ l]
def mapNf (q:Nat) (d:Fd) (w a:Int):Nf:=⟨4,0,0,0,(0, []),nXs q (mapX w a),d.L,0⟩
theorem mapNf_d (q:Nat) (d:Fd) (w a:Int):(mapNf q d w a).d=mapN d w a:=by
  have: ∀(q:Nat) (l:List (List (Int×Int))),(numL nX one1 q l).map Prod.snd=l:=fun q l=>by
    induction l generalizing q with
    | nil=>rfl
    | cons a l ih=>rw [numL,List.map_cons,ih];rfl
  simp only [mapNf,Nf.d,mapN,nXs,this]
def sM (w a:Int):Nat:=(mapX w a).length+1
def stepN (ask:Fd->Int) (w:Int->Int) (out:List Nf) (q j:Nat) (d:Fd):List Nf×Nat:=
  if 0<ask d then ((out.set d.L.toNat {out.getD d.L.toNat default with K:=9+ask d}).set j (mapNf q d (w d.L) (ask d)),q+sM (w d.L) (ask d)) else (out,q)
theorem stepN_d (ask:Fd->Int) (w:Int->Int) (out:List Nf) (q j:Nat) (d:Fd) (hL:d.L.toNat<out.length):(stepN ask w out q j d).1.map Nf.d=stepI ask w (out.map Nf.d) j d:=by
  unfold stepN stepI
  split
  · simp only
    rw [List.map_set,List.map_set,mapNf_d]
    congr 2
    simp [List.getD,hL,Nf.d]
  · rfl
theorem stepN_ok {ask:Fd->Int} {w:Int->Int} {out:List Nf} {q j:Nat} {d:Fd} (h:NumOk out q) (hL:d.L.toNat<out.length):NumOk (stepN ask w out q j d).1 (stepN ask w out q j d).2:=by
  unfold stepN
  split
  · simp only
    obtain ⟨n,hn⟩: ∃n,out[d.L.toNat]?=some n:=⟨_,List.getElem?_eq_getElem hL⟩
    have hg:out.getD d.L.toNat default=n:=by rw [List.getD,hn];rfl
    rw [hg]
    have nd: ∀n∈out,(fNums n).Nodup:=fun n hn=>by
      obtain ⟨i,hi⟩:=List.mem_iff_getElem?.1 hn
      have:=nodup_getD (j:=i) h.1
      rw [List.getD,List.getElem?_map,hi] at this
      exact this
    have h1:NumOk (out.set d.L.toNat {n with K:=9+ask d}) q:=h.set (Nat.le_refl _) (nd n (List.mem_of_getElem? hn)) fun k hk=> .inl ⟨n,hn,hk⟩
    obtain ⟨g1,g2⟩:=nXs_nums q (mapX (w d.L) (ask d))
    have he:fNums (mapNf q d (w d.L) (ask d))=xsNums (nXs q (mapX (w d.L) (ask d))):=by
      unfold fNums mapNf
      simp [xNums]
    refine h1.set (Nat.le_add_right _ _) (by rw [he];exact g1) fun k hk=> .inr ?_
    rw [he] at hk
    have:=g2 k hk
    unfold sM
    omega
  · exact h
end Go.Proofs.Ytfplalbognalkaa.Ab
