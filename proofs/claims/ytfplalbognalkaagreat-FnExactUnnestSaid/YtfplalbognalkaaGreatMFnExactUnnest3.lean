/- Tables: valid, by the specification. -/
import Derived.Test.YtfplalbognalkaaGreatMFnExactUnnest2
set_option linter.unusedSimpArgs false
set_option linter.unusedVariables false
set_option linter.unnecessarySimpa false
set_option linter.constructorNameAsVariable false
set_option maxRecDepth 100000
set_option maxHeartbeats 16000000
namespace Go.Proofs.YtfplalbognalkaaGreat.Ab
open Go
def fidxN:List Tb->List UInt8->Int->Int
 | [],_,_=> -1
 | t::r,n,k=>if t.1=n then k else fidxN r n (k+1)
def fidx (ts:List Tb) (n:List UInt8):Int:=fidxN ts n 0
theorem fidx_at: ∀(l:List Tb) (m:Nat) (t:Tb) (k:Int),l[m]?=some t->k<=fidxN l t.1 k/\(fidxN l t.1 k=k+m ↔ ∀j t',j<m->l[j]?=some t'->t'.1≠t.1)
 | [],m,t,k,h=>by simp at h
 | a::l,0,t,k,h=>by
  simp at h;subst h
  simp [fidxN]
 | a::l,m+1,t,k,h=>by
  obtain ⟨h1,h2⟩:=fidx_at l m t (k+1) (by simpa using h)
  by_cases e:a.1=t.1
  ·have e2:fidxN (a::l) t.1 k=k:=if_pos e
   rw [e2]
   refine ⟨Int.le_refl _,⟨fun q=>by omega,fun q=>absurd e (q 0 a (by omega) rfl)⟩⟩
  ·have e2:fidxN (a::l) t.1 k=fidxN l t.1 (k+1):=if_neg e
   rw [e2]
   refine ⟨by omega,?_⟩
   rw [show k+((m+1:Nat):Int)=k+1+m by omega,h2]
   constructor
   ·intro q j t' hj ht
    cases j with
    | zero=>simp at ht;subst ht;exact e
    | succ j=>exact q j t' (by omega) (by simpa using ht)
   ·intro q j t' hj ht
    exact q (j+1) t' (by omega) (by simpa using ht)
def good (ts:List Tb) (i:Nat) (t:Tb):Bool:=nameB t.1&&(decide (1<=t.2.1/\t.2.1<=16)&&(decide (fidx ts t.1=i)&&t.2.2.all fun r=>decide ((r.length:Int)=t.2.1)))
def rlen (t:Tb):Int:=t.2.2.length
theorem rlen_nonneg (t:Tb):0<=rlen t:=by unfold rlen;omega
def dbOk (ts:List Tb):Bool:=decide (ts.length<=50)&&(((List.range ts.length).all fun i=>good ts i (ts.getD i ([],0, [])))&&decide (sumC rlen ts<=1000))
theorem dbF (ts:List Tb):(50<ts.length->dbOk ts=false)/\(∀i t,ts[i]?=some t->good ts i t=false->dbOk ts=false)/\
  (ts.length<=50->(∀i t,ts[i]?=some t->good ts i t=true)->dbOk ts=decide (sumC rlen ts<=1000)):=by
 refine ⟨fun h=>by simp [dbOk,show¬ts.length<=50 by omega],fun i t h e=>?_,fun h q=>?_⟩
 ·have hi:=(List.getElem?_eq_some_iff.1 h).1
  have:((List.range ts.length).all fun i=>good ts i (ts.getD i ([],0, [])))=false:=by
   rw [List.all_eq_false]
   exact ⟨i,by simp [hi],by simp [List.getD,h,e]⟩
  rw [dbOk,this];simp
 ·have:((List.range ts.length).all fun i=>good ts i (ts.getD i ([],0, [])))=true:=by
   rw [List.all_eq_true]
   intro i hi
   simp at hi
   exact q i _ (by simp [List.getD,hi])
  rw [dbOk,this,decide_eq_true h];simp
theorem sz_rows (ts:List Tb):sumC rlen ts<=cTS ts:=by
 have: ∀l:List Tb,sumC rlen l<=sumC cT l:=fun l=>by
  induction l with
  | nil=>exact Int.le_refl _
  | cons t l ih=>
   simp only [sumC]
   have:=sumC_nonneg cV_nonneg t.2.2
   have:rlen t<=cT t:=by unfold rlen cT cSS;omega
   omega
 have:=this ts
 unfold cTS;omega
theorem sz_row {ts:List Tb} {t:Tb} (h:t∈ts):cT t<=cTS ts:=by have:=sumC_mem cT_nonneg h;unfold cTS;omega
theorem ok154 (ts:List Tb) (x:List (List E)) (hx:x=ts.map tbr) (n:List UInt8):Plain Tryz.prog 154 [.agg [.e (.sl x)],.str n] (.int (fidx ts n)):=okOf mixed p154 fun A P hA hP=>(by
 have hl:x.length=ts.length:=by rw [hx];simp
 obtain ⟨r,hr⟩: ∃r,r=fidx ts n:=⟨_,rfl⟩
 rw [<-hr]
 cbv
 repeat' first | exact W1 | refine WA ?_ ?_ | with_reducible intro hcc | refine WS ?_ | refine W6 ?_ | ((with_reducible first | refine hA.Len fun z hz hb=>?_ | refine hA.Off fun b hb=>?_ | refine hA.Plus fun b hb=>?_);cbv) | ((with_reducible first | refine hA.Sapp ?_ fun sl hsl=>?_);rotate_left;cbv) | refine WL ?_ | fail
 all_goals try simp only [hA.sm,n_cast] at *
 refine hA.loopI (fun m s=> ∃i:Int,0<=i/\m+i=x.length/\r=fidxN (ts.drop i.toNat) n i/\s=⟨[(5,.int i),(1,.str n),(2,.ref 0 0),(4,.int 0)], [.box [.e (.sl x)]]⟩) x.length _
  (Weak.keep (env':= [(5,.int 0),(1,.str n),(2,.ref 0 0),(4,.int 0)]) ⟨rfl,rfl,rfl,rfl,trivial⟩) ⟨0,by omega,by omega,by simpa [fidx] using hr,rfl⟩ ?_
 rintro m s K ⟨i,h0,h1,h2,rfl⟩ hK
 by_cases hin:(0:Int)<=i/\i<x.length
 ·obtain ⟨⟨n1,c1,rs1⟩,e1,q1⟩:=row_at hx hin
  obtain ⟨x1,hx1⟩: ∃y,y=rs1.map rsr:=⟨_,rfl⟩
  have e1:x.getD i.toNat []= [E.str n1,E.int c1,E.sl x1]:=e1.trans (by rw [hx1])
  have h3:r=if n1=n then i else fidxN (ts.drop (i.toNat+1)) n (i+1):=by
   obtain ⟨a,b⟩:=List.getElem?_eq_some_iff.1 q1
   rw [h2,List.drop_eq_getElem_cons a,b];rfl
  have e8:(i+1).toNat=i.toNat+1:=by omega
  clear h2 hr
  cbv
  repeat' first | exact W1 | refine WA ?_ ?_ | with_reducible intro hcc | refine WS ?_ | (refine hA.RowE hin e1 ?_;cbv) | refine W6 ?_ | ((with_reducible first | refine hA.Len fun z hz hb=>?_ | refine hA.Off fun b hb=>?_ | refine hA.Plus fun b hb=>?_);cbv) | ((with_reducible first | refine hA.Sapp ?_ fun sl hsl=>?_);rotate_left;cbv) | refine WL ?_ | fail
  all_goals try simp only [hA.sm,n_cast] at *
  all_goals first
   | omega
   | (rw [h3,if_pos (by simpa using (by assumption:decide (n1=n)=true))];done)
   | (refine hK _ (m-1) _ (by omega) (Weak.keep (env':= [(5,.int (i+1)),(1,.str n),(2,.ref 0 0),(4,.int 0)]) ⟨rfl,rfl,rfl,rfl,trivial⟩) ⟨i+1,by omega,by omega,?_,rfl⟩
      rw [h3,if_neg (by simpa using (by assumption:decide (n1=n)=false)),e8])
   | (clear hK h3;simp at *;omega)
 ·have hd:ts.drop i.toNat= []:=by rw [List.drop_eq_nil_iff];omega
  rw [hd] at h2
  have h3:r= -1:=h2
  clear hK h2 hr
  cbv
  repeat' first | exact W1 | refine WA ?_ ?_ | with_reducible intro hcc | refine WS ?_ | (exfalso;simp only [hA.lt,hA.sub,decide_eq_true_eq,decide_eq_false_iff_not,n_cast] at *;omega) | refine W6 ?_ | ((with_reducible first | refine hA.Len fun z hz hb=>?_ | refine hA.Off fun b hb=>?_ | refine hA.Plus fun b hb=>?_);cbv) | ((with_reducible first | refine hA.Sapp ?_ fun sl hsl=>?_);rotate_left;cbv) | refine WL ?_ | fail
  all_goals try simp only [hA.sm,n_cast] at *
  all_goals first
   | (rw [h3];done)
   | omega)
theorem good_iff {ts:List Tb} {i:Nat} {n:List UInt8} {c:Int} {rs:List (List (Bool×Int))} :good ts i (n,c,rs)=true ↔ nameB n=true/\(1<=c/\c<=16)/\fidx ts n=i/\ ∀r∈rs,(r.length:Int)=c:=by
 simp [good]
theorem ok78 (ts:List Tb) (x:List (List E)) (hx:x=ts.map tbr) (hsz:cTS ts<=1048576):Plain Tryz.prog 78 [.agg [.e (.sl x)]] (.bool (dbOk ts)):=okOf mixed p78 fun A P hA hP=>(by
 have hl:x.length=ts.length:=by rw [hx];simp
 obtain ⟨d1,d2,d3⟩:=dbF ts
 obtain ⟨r,hr⟩: ∃r,r=dbOk ts:=⟨_,rfl⟩
 rw [<-hr] at d1 d2 d3 ⊢
 clear hr
 cbv
 repeat' first | exact W1 | refine WA ?_ ?_ | with_reducible intro hcc | refine WS ?_ | refine W6 ?_ | ((with_reducible first | refine hA.Len fun z hz hb=>?_ | refine hA.Off fun b hb=>?_ | refine hA.Plus fun b hb=>?_ | refine hA.gb _ _ fun vb hvb=>?_);cbv) | ((with_reducible first | refine hA.Sto ?_ fun ds hds=>?_ | refine hA.Sapp ?_ fun sl hsl=>?_);rotate_left;cbv) | refine WL ?_ | fail
 all_goals try simp only [hA.sm,n_cast] at *
 all_goals try (first | (rw [d1 (by simp at *;omega)];done))
 have h50:ts.length<=50:=by clear d1 d2 d3;simp at *;omega
 have hrn:=sz_rows ts
 refine hA.loopI (fun m s=> ∃i rows:Int,0<=i/\m+i=x.length/\0<=rows/\rows+sumC rlen (ts.drop i.toNat)=sumC rlen ts/\(∀(j:Nat) t,(j:Int)<i->ts[j]?=some t->good ts j t=true)/\
   s=⟨[(4,.int i),(3,.int rows),(2,.bool false),(1,.ref 0 0)], [.box [.e (.sl x)]]⟩) x.length _
  (Weak.keep (env':= [(4,.int 0),(3,.int 0),(2,.bool false),(1,.ref 0 0)]) ⟨rfl,rfl,rfl,rfl,trivial⟩) ⟨0,0,by omega,by omega,by omega,by simp,fun j t hj=>by omega,rfl⟩ ?_
 rintro m s K ⟨i,rows,h0,h1,h2,h3,h4,rfl⟩ hK
 by_cases hin:(0:Int)<=i/\i<x.length
 ·obtain ⟨⟨n1,c1,rs1⟩,e1,q1⟩:=row_at hx hin
  obtain ⟨x1,hx1⟩: ∃y,y=rs1.map rsr:=⟨_,rfl⟩
  have e1:x.getD i.toNat []= [E.str n1,E.int c1,E.sl x1]:=e1.trans (by rw [hx1])
  have hl1:x1.length=rs1.length:=by rw [hx1];simp
  rw [sumC_drop q1] at h3
  have hS:=sumC_nonneg rlen_nonneg (ts.drop (i.toNat+1))
  have hrl:rlen (n1,c1,rs1)=x1.length:=by rw [hl1];rfl
  have hd:=d2 i.toNat _ q1
  have gi:=good_iff (ts:=ts) (i:=i.toNat) (n:=n1) (c:=c1) (rs:=rs1)
  obtain ⟨g,hg⟩: ∃g,g=good ts i.toNat (n1,c1,rs1):=⟨_,rfl⟩
  rw [<-hg] at hd gi
  obtain ⟨nb,hnb⟩: ∃b,b=nameB n1:=⟨_,rfl⟩
  obtain ⟨fi,hfi⟩: ∃f,f=fidx ts n1:=⟨_,rfl⟩
  rw [<-hnb,<-hfi] at gi
  have h66:=ok153 n1
  have h67:=ok154 ts x hx n1
  rw [<-hnb] at h66
  rw [<-hfi] at h67
  have e8:(i+1).toNat=i.toNat+1:=by omega
  have hK2:(g=true)-> ∀w:Int,w=rows+x1.length-> ∀s1,Weak (hpF []) s1 ⟨[(4,.int (i+1)),(3,.int w),(2,.bool false),(1,.ref 0 0)], [.box [.e (.sl x)]]⟩->K s1:=fun e w hww s1 hw=>by
   refine hK s1 (m-1) _ (by omega) hw ⟨i+1,_,by omega,by omega,by omega,by rw [e8];omega,fun j t hj ht=>?_,rfl⟩
   by_cases hji:(j:Int)<i
   ·exact h4 j t hji ht
   ·have:j=i.toNat:=by omega
    subst this
    rw [q1] at ht
    cases ht
    rw [<-hg];exact e
  clear hK h4 hnb hfi hg d1 d2 d3
  cbv
  repeat' first | exact W1 | refine WA ?_ ?_ | with_reducible intro hcc | refine WS ?_ | refine WK hA hP ?_ | (refine hA.RowE hin e1 ?_;cbv) | refine W6 ?_ | ((with_reducible first | refine hA.Len fun z hz hb=>?_ | refine hA.Off fun b hb=>?_ | refine hA.Plus fun b hb=>?_ | refine hA.gb _ _ fun vb hvb=>?_);cbv) | ((with_reducible first | refine hA.Sto ?_ fun ds hds=>?_ | refine hA.Sapp ?_ fun sl hsl=>?_);rotate_left;cbv) | refine WL ?_ | fail
  all_goals try simp only [hA.sm,n_cast] at *
  all_goals try (first
   | omega
   | (clear hK2 hd gi h66 h67;simp at *;omega)
   | (clear hK2 hd gi h66 h67;grind;done))
  ·have hf:g=false:=by
    rw [Bool.eq_false_iff]
    intro q
    obtain ⟨a1,a2,a3,_⟩:=gi.1 q
    clear hK2 hd gi h66 h67
    simp at *
    grind
   rw [hd hf]
  ·have hpre:g=true ↔ ∀r∈rs1,(r.length:Int)=c1:=by
    rw [gi]
    have:nb=true/\(1<=c1/\c1<=16)/\fi= ↑i.toNat:=by
     clear hK2 hd gi h66 h67
     simp at *
     grind
    exact ⟨fun q=>q.2.2.2,fun q=>⟨this.1,this.2.1,this.2.2,q⟩⟩
   clear gi h66 h67
   refine hA.loopI (fun mm s=> ∃jj:Int,0<=jj/\mm+jj=x1.length/\(∀(k:Nat) r',(k:Int)<jj->rs1[k]?=some r'->(r'.length:Int)=c1)/\
     s=⟨[(6,.int jj),(5,.ref 1 0),(4,.int i),(3,.int rows),(2,.bool false),(1,.ref 0 0)], [.box [.e (.sl x)],.box [.str n1,.int c1,.e (.sl x1)]]⟩) x1.length _
    (Weak.keep (env':= [(6,.int 0),(5,.ref 1 0),(4,.int i),(3,.int rows),(2,.bool false),(1,.ref 0 0)]) ⟨rfl,rfl,rfl,rfl,rfl,rfl,trivial⟩) ⟨0,by omega,by omega,fun k r' hk=>by omega,rfl⟩ ?_
   rintro mm s K3 ⟨jj,j0,j1,j2,rfl⟩ hK3
   by_cases hjn:(0:Int)<=jj/\jj<x1.length
   ·obtain ⟨r1,e2,q2⟩:=row_at hx1 hjn
    obtain ⟨y1,hy1⟩: ∃y,y=r1.map vr:=⟨_,rfl⟩
    have e2:x1.getD jj.toNat []= [E.sl y1]:=e2.trans (by rw [hy1])
    have hly:y1.length=r1.length:=by rw [hy1];simp
    have k1: ¬(r1.length:Int)=c1->r=false:=fun q=>hd (by
     rw [Bool.eq_false_iff]
     intro q'
     exact q (hpre.1 q' r1 (List.mem_of_getElem? q2)))
    have k2:(r1.length:Int)=c1-> ∀s1,Weak (hpF []) s1 ⟨[(6,.int (jj+1)),(5,.ref 1 0),(4,.int i),(3,.int rows),(2,.bool false),(1,.ref 0 0)], [.box [.e (.sl x)],.box [.str n1,.int c1,.e (.sl x1)]]⟩->K3 s1:=fun q s1 hw=>by
     refine hK3 s1 (mm-1) _ (by omega) hw ⟨jj+1,by omega,by omega,fun k r' hk hr'=>?_,rfl⟩
     by_cases hkj:(k:Int)<jj
     ·exact j2 k r' hkj hr'
     ·have:k=jj.toNat:=by omega
      subst this
      rw [q2] at hr'
      cases hr'
      exact q
    clear hK3 hK2 hd hpre j2
    cbv
    repeat' first | exact W1 | refine WA ?_ ?_ | with_reducible intro hcc | refine WS ?_ | (refine hA.RowE hjn e2 ?_;cbv) | refine W6 ?_ | ((with_reducible first | refine hA.Len fun z hz hb=>?_ | refine hA.Off fun b hb=>?_ | refine hA.Plus fun b hb=>?_ | refine hA.gb _ _ fun vb hvb=>?_);cbv) | ((with_reducible first | refine hA.Sto ?_ fun ds hds=>?_ | refine hA.Sapp ?_ fun sl hsl=>?_);rotate_left;cbv) | refine WL ?_ | fail
    all_goals try simp only [hA.sm,n_cast] at *
    all_goals first
     | omega
     | (rw [k1 (by clear k1 k2 hx hx1 e1 e2 hy1;grind)];done)
     | (exact k2 (by clear k1 k2 hx hx1 e1 e2 hy1;grind) _ (Weak.keep ⟨rfl,rfl,rfl,rfl,rfl,rfl,trivial⟩))
     | (clear k1 k2;simp at *;omega)
     | (clear k1 k2;grind;done)
   ·have hgt:g=true:=hpre.2 fun r' hr'=>by
     obtain ⟨k,hk,e⟩:=List.getElem_of_mem hr'
     exact j2 k r' (by omega) (by rw [<-e];simp [hk])
    have hK4:=hK2 hgt
    clear hK3 hK2 hd hpre j2
    cbv
    repeat' first | exact W1 | refine WA ?_ ?_ | with_reducible intro hcc | refine WS ?_ | (exfalso;simp only [hA.lt,hA.sub,decide_eq_true_eq,decide_eq_false_iff_not,n_cast] at *;omega) | refine W6 ?_ | ((with_reducible first | refine hA.Len fun z hz hb=>?_ | refine hA.Off fun b hb=>?_ | refine hA.Plus fun b hb=>?_ | refine hA.gb _ _ fun vb hvb=>?_);cbv) | ((with_reducible first | refine hA.Sto ?_ fun ds hds=>?_ | refine hA.Sapp ?_ fun sl hsl=>?_);rotate_left;cbv) | refine WL ?_ | fail
    all_goals try simp only [hA.sm,n_cast] at *
    all_goals first
     | omega
     | (refine hK4 _ ?_ _ (Weak.ren (l0:= []) [0] (fun t=> [(4,.int (i+1)),(3,.int _),(2,.bool false),(1,.ref (t 0) 0)]) (fun t=> [.box [.e (.sl x)]]) rfl ⟨.inl rfl,.inl rfl,.inl rfl,.inl rfl,trivial⟩ ⟨rfl,trivial⟩ ⟨fun t=>rfl,rfl,fun t=>rfl,by simp [O.lt,lts,D.lt]⟩)
        omega)
     | (clear hK4;simp at *;omega)
 ·have hd0:ts.drop i.toNat= []:=by rw [List.drop_eq_nil_iff];omega
  rw [hd0] at h3
  have h3:rows+0=sumC rlen ts:=h3
  have hr3:=d3 h50 fun j t ht=>h4 j t (by have:=(List.getElem?_eq_some_iff.1 ht).1;omega) ht
  clear hK h4 d1 d2 d3
  cbv
  repeat' first | exact W1 | refine WA ?_ ?_ | with_reducible intro hcc | refine WS ?_ | (exfalso;simp only [hA.lt,hA.sub,decide_eq_true_eq,decide_eq_false_iff_not,n_cast] at *;omega) | refine W6 ?_ | ((with_reducible first | refine hA.Len fun z hz hb=>?_ | refine hA.Off fun b hb=>?_ | refine hA.Plus fun b hb=>?_ | refine hA.gb _ _ fun vb hvb=>?_);cbv) | ((with_reducible first | refine hA.Sto ?_ fun ds hds=>?_ | refine hA.Sapp ?_ fun sl hsl=>?_);rotate_left;cbv) | refine WL ?_ | fail
  all_goals try simp only [hA.sm,n_cast] at *
  all_goals first
   | (rw [hr3,<-h3,Int.add_zero];done)
   | omega)
end Go.Proofs.YtfplalbognalkaaGreat.Ab
/- Tables: valid, by the program. -/
namespace Go.Proofs.YtfplalbognalkaaGreat.Ab
open Go
theorem mlook_mset (l:List (List UInt8×E)) (k:List UInt8) (v:E) (n:List UInt8):mlook (mset l k v) n=if k=n then some v else mlook l n:=by
 induction l with
 | nil=>rfl
 | cons p l ih=>
  simp only [mset]
  by_cases h:p.1=k
  ·rw [if_pos h]
   simp only [mlook]
   by_cases h2:k=n
   ·rw [if_pos h2,if_pos h2]
   ·rw [if_neg h2,if_neg h2,if_neg (by rw [h];exact h2)]
  ·rw [if_neg h]
   simp only [mlook]
   by_cases h3:p.1=n
   ·rw [if_pos h3,if_pos h3,if_neg (fun e=>h (h3.trans e.symm))]
   ·rw [if_neg h3,if_neg h3,ih]
theorem ok61 (ts:List Tb) (x:List (List E)) (hx:x=ts.map tbr) (hsz:cTS ts<=1048576):Plain Tryz.prog 61 [.agg [.e (.sl x)]] (.bool (dbOk ts)):=okOf mixed p61 fun A P hA hP=>(by
 have hl:x.length=ts.length:=by rw [hx];simp
 obtain ⟨d1,d2,d3⟩:=dbF ts
 obtain ⟨r,hr⟩: ∃r,r=dbOk ts:=⟨_,rfl⟩
 rw [<-hr] at d1 d2 d3 ⊢
 clear hr
 cbv
 repeat' first | exact W1 | refine WA ?_ ?_ | with_reducible intro hcc | refine WS ?_ | refine W6 ?_ | ((with_reducible first | refine hA.Len fun z hz hb=>?_ | refine hA.Off fun b hb=>?_ | refine hA.Plus fun b hb=>?_ | refine hA.gb _ _ fun vb hvb=>?_ | refine hA.mset _ _ _ _ fun ml hml=>?_);cbv) | ((with_reducible first | refine hA.Sto ?_ fun ds hds=>?_ | refine hA.Sapp ?_ fun sl hsl=>?_);rotate_left;cbv) | ((with_reducible refine hA.mget _ _ _ _ ⟨fun mv hmv=>?_,fun hmv=>?_⟩) <;>cbv) | refine WL ?_ | fail
 all_goals try simp only [hA.sm,n_cast] at *
 all_goals try (first | (rw [d1 (by simp at *;omega)];done))
 have h50:ts.length<=50:=by clear d1 d2 d3;simp at *;omega
 have hrn:=sz_rows ts
 refine hA.loopI (fun m s=> ∃(i rows zz:Int) (ml:List (List UInt8×E)),0<=i/\zz=x.length/\m+i=zz/\0<=rows/\rows+sumC rlen (ts.drop i.toNat)=sumC rlen ts/\(∀(j:Nat) t,(j:Int)<i->ts[j]?=some t->good ts j t=true)/\
   (∀n,(∃v,mlook ml n=some v) ↔ ∃(j:Nat) (t:Tb),(j:Int)<i/\ts[j]?=some t/\t.1=n)/\
   s=⟨[(19,.int i),(18,.int zz),(17,.e (.sl x)),(4,.int rows),(3,.mp 1),(2,.bool false),(1,.ref 0 0)], [.box [.e (.sl x)],.smap ml]⟩) x.length _
  (Weak.keep (env':= [(19,.int 0),(18,.int z),(17,.e (.sl x)),(4,.int 0),(3,.mp 1),(2,.bool false),(1,.ref 0 0)]) ⟨rfl,rfl,rfl,rfl,rfl,rfl,rfl,trivial⟩)
  ⟨0,0,z, [],by omega,by omega,by omega,by omega,(by simp),(fun j t hj=>by omega),(fun n=>⟨fun ⟨v,hv⟩=>(by simp [mlook] at hv),fun ⟨j,t,hj,_⟩=>(by omega)⟩),rfl⟩ ?_
 rintro m s K ⟨i,rows,zz,ml0,h0,hzz,h1,h2,h3,h4,h5,rfl⟩ hK
 by_cases hin:(0:Int)<=i/\i<x.length
 ·obtain ⟨⟨n1,c1,rs1⟩,e1,q1⟩:=row_at hx hin
  obtain ⟨x1,hx1⟩: ∃y,y=rs1.map rsr:=⟨_,rfl⟩
  have e1:x.getD i.toNat []= [E.str n1,E.int c1,E.sl x1]:=e1.trans (by rw [hx1])
  have hl1:x1.length=rs1.length:=by rw [hx1];simp
  rw [sumC_drop q1] at h3
  have hS:=sumC_nonneg rlen_nonneg (ts.drop (i.toNat+1))
  have hrl:rlen (n1,c1,rs1)=x1.length:=by rw [hl1];rfl
  have hd:=d2 i.toNat _ q1
  have gi:=good_iff (ts:=ts) (i:=i.toNat) (n:=n1) (c:=c1) (rs:=rs1)
  obtain ⟨g,hg⟩: ∃g,g=good ts i.toNat (n1,c1,rs1):=⟨_,rfl⟩
  rw [<-hg] at hd gi
  obtain ⟨nb,hnb⟩: ∃b,b=nameB n1:=⟨_,rfl⟩
  have hfr:=(fidx_at ts i.toNat (n1,c1,rs1) 0 q1).2
  rw [Int.zero_add] at hfr
  have hfr:fidx ts n1= ↑i.toNat ↔ mlook ml0 n1=none:=by
   rw [show fidx ts n1=fidxN ts n1 0 from rfl,hfr]
   constructor
   ·intro q
    cases hm:mlook ml0 n1 with
    | none=>rfl
    | some v=>
     obtain ⟨j,t,hj,ht,e⟩:=(h5 n1).1 ⟨v,hm⟩
     exact absurd e (q j t (by omega) ht)
   ·intro q j t' hj ht e
    obtain ⟨v,hv⟩:=(h5 n1).2 ⟨j,t',by omega,ht,e⟩
    rw [q] at hv;cases hv
  rw [<-hnb,hfr] at gi
  have h66:=ok132 n1
  rw [<-hnb] at h66
  have e8:(i+1).toNat=i.toNat+1:=by omega
  have hK2:(g=true)-> ∀(w:Int) (ml:List (List UInt8×E)),w=rows+x1.length->ml=mset ml0 n1 (E.int i)-> ∀s1,Weak (hpF []) s1 ⟨[(19,.int (i+1)),(18,.int zz),(17,.e (.sl x)),(4,.int w),(3,.mp 1),(2,.bool false),(1,.ref 0 0)], [.box [.e (.sl x)],.smap ml]⟩->K s1:=fun e w ml hww hml s1 hw=>by
   refine hK s1 (m-1) _ (by omega) hw ⟨i+1,_,zz,ml,by omega,hzz,by omega,by omega,by rw [e8];omega,fun j t hj ht=>?_,fun n=>?_,rfl⟩
   ·by_cases hji:(j:Int)<i
    ·exact h4 j t hji ht
    ·have:j=i.toNat:=by omega
     subst this
     rw [q1] at ht
     cases ht
     rw [<-hg];exact e
   ·rw [hml,mlook_mset]
    by_cases hn:n1=n
    ·rw [if_pos hn]
     exact ⟨fun _=>⟨i.toNat,_,by omega,q1,hn⟩,fun _=>⟨_,rfl⟩⟩
    ·rw [if_neg hn,h5 n]
     constructor
     ·rintro ⟨j,t,a,b,c⟩;exact ⟨j,t,by omega,b,c⟩
     ·rintro ⟨j,t,a,b,c⟩
      refine ⟨j,t,?_,b,c⟩
      by_cases hji:(j:Int)<i
      ·exact hji
      ·have:j=i.toNat:=by omega
       subst this
       rw [q1] at b
       cases b
       exact absurd c hn
  clear hK h4 h5 hnb hfr hg d1 d2 d3
  cbv
  repeat' first | exact W1 | refine WA ?_ ?_ | with_reducible intro hcc | refine WS ?_ | refine WK hA hP ?_ | (refine hA.RowE hin e1 ?_;cbv) | refine W6 ?_ | ((with_reducible first | refine hA.Len fun z hz hb=>?_ | refine hA.Off fun b hb=>?_ | refine hA.Plus fun b hb=>?_ | refine hA.gb _ _ fun vb hvb=>?_ | refine hA.mset _ _ _ _ fun ml hml=>?_);cbv) | ((with_reducible first | refine hA.Sto ?_ fun ds hds=>?_ | refine hA.Sapp ?_ fun sl hsl=>?_);rotate_left;cbv) | ((with_reducible refine hA.mget _ _ _ _ ⟨fun mv hmv=>?_,fun hmv=>?_⟩) <;>cbv) | refine WL ?_ | fail
  all_goals try simp only [hA.sm,n_cast] at *
  all_goals try (first
   | omega
   | (clear hK2 hd gi h66;simp at *;omega)
   | (clear hK2 hd gi h66;grind;done))
  all_goals try (
   have hf:g=false:=(by
    rw [Bool.eq_false_iff]
    intro q
    obtain ⟨a1,a2,a3,_⟩:=gi.1 q
    clear hK2 hd gi h66
    first
     | (rw [a3] at hmv;cases hmv;done)
     | (grind;done)
     | (simp at *;done)
     | (simp at *;grind;done))
   rw [hd hf]
   done)
  have hpre:g=true ↔ ∀r∈rs1,(r.length:Int)=c1:=by
   rw [gi]
   have:nb=true/\(1<=c1/\c1<=16):=by
    clear hK2 hd gi h66
    simp at *
    grind
   exact ⟨fun q=>q.2.2.2,fun q=>⟨this.1,this.2,hmv,q⟩⟩
  clear gi h66
  refine hA.loopI (fun mm s=> ∃jj zj w:Int,0<=jj/\zj=x1.length/\mm+jj=zj/\w=rows+x1.length/\(∀(k:Nat) r',(k:Int)<jj->rs1[k]?=some r'->(r'.length:Int)=c1)/\
    s=⟨[(60,.int jj),(59,.int zj),(58,.e (.sl x1)),(6,.ref 2 0),(19,.int i),(18,.int zz),(17,.e (.sl x)),(4,.int w),(3,.mp 1),(2,.bool false),(1,.ref 0 0)],
     [.box [.e (.sl x)],.smap ml,.box [.str n1,.int c1,.e (.sl x1)]]⟩) x1.length _
   (Weak.keep (env':= [(60,.int 0),(59,.int _),(58,.e (.sl x1)),(6,.ref 2 0),(19,.int i),(18,.int zz),(17,.e (.sl x)),(4,.int (rows+_)),(3,.mp 1),(2,.bool false),(1,.ref 0 0)]) ⟨rfl,rfl,rfl,rfl,rfl,rfl,rfl,rfl,rfl,rfl,rfl,trivial⟩)
   ⟨0,_,_,by omega,?_,?_,?_,(fun k r' hk=>by omega),rfl⟩ ?_
  ·omega
  ·omega
  ·omega
  rintro mm s K3 ⟨jj,zj,w,j0,jz,j1,jw,j2,rfl⟩ hK3
  by_cases hjn:(0:Int)<=jj/\jj<x1.length
  ·obtain ⟨r1,e2,q2⟩:=row_at hx1 hjn
   obtain ⟨y1,hy1⟩: ∃y,y=r1.map vr:=⟨_,rfl⟩
   have e2:x1.getD jj.toNat []= [E.sl y1]:=e2.trans (by rw [hy1])
   have hly:y1.length=r1.length:=by rw [hy1];simp
   have k1: ¬(r1.length:Int)=c1->r=false:=fun q=>hd (by
    rw [Bool.eq_false_iff]
    intro q'
    exact q (hpre.1 q' r1 (List.mem_of_getElem? q2)))
   have k2:(r1.length:Int)=c1-> ∀s1,Weak (hpF []) s1 ⟨[(60,.int (jj+1)),(59,.int zj),(58,.e (.sl x1)),(6,.ref 2 0),(19,.int i),(18,.int zz),(17,.e (.sl x)),(4,.int w),(3,.mp 1),(2,.bool false),(1,.ref 0 0)],
     [.box [.e (.sl x)],.smap ml,.box [.str n1,.int c1,.e (.sl x1)]]⟩->K3 s1:=fun q s1 hw=>by
    refine hK3 s1 (mm-1) _ (by omega) hw ⟨jj+1,zj,w,by omega,jz,by omega,jw,fun k r' hk hr'=>?_,rfl⟩
    by_cases hkj:(k:Int)<jj
    ·exact j2 k r' hkj hr'
    ·have:k=jj.toNat:=by omega
     subst this
     rw [q2] at hr'
     cases hr'
     exact q
   clear hK3 hK2 hd hpre j2
   cbv
   repeat' first | exact W1 | refine WA ?_ ?_ | with_reducible intro hcc | refine WS ?_ | (refine hA.RowE hjn e2 ?_;cbv) | refine W6 ?_ | ((with_reducible first | refine hA.Len fun z hz hb=>?_ | refine hA.Off fun b hb=>?_ | refine hA.Plus fun b hb=>?_ | refine hA.gb _ _ fun vb hvb=>?_ | refine hA.mset _ _ _ _ fun ml hml=>?_);cbv) | ((with_reducible first | refine hA.Sto ?_ fun ds hds=>?_ | refine hA.Sapp ?_ fun sl hsl=>?_);rotate_left;cbv) | ((with_reducible refine hA.mget _ _ _ _ ⟨fun mv hmv=>?_,fun hmv=>?_⟩) <;>cbv) | refine WL ?_ | fail
   all_goals try simp only [hA.sm,n_cast] at *
   all_goals first
    | omega
    | (rw [k1 (by clear k1 k2 hx hx1 e1 e2 hy1 hml hmv;grind)];done)
    | (exact k2 (by clear k1 k2 hx hx1 e1 e2 hy1 hml hmv;grind) _ (Weak.keep ⟨rfl,rfl,rfl,rfl,rfl,rfl,rfl,rfl,rfl,rfl,rfl,trivial⟩))
    | (clear k1 k2 hml hmv;simp at *;omega)
    | (clear k1 k2 hml hmv;grind;done)
  ·have hgt:g=true:=hpre.2 fun r' hr'=>by
    obtain ⟨k,hk,e⟩:=List.getElem_of_mem hr'
    exact j2 k r' (by omega) (by rw [<-e];simp [hk])
   have hK4:=hK2 hgt
   clear hK3 hK2 hd hpre j2
   cbv
   repeat' first | exact W1 | refine WA ?_ ?_ | with_reducible intro hcc | refine WS ?_ | (exfalso;simp only [hA.lt,hA.sub,decide_eq_true_eq,decide_eq_false_iff_not,n_cast] at *;omega) | refine W6 ?_ | ((with_reducible first | refine hA.Len fun z hz hb=>?_ | refine hA.Off fun b hb=>?_ | refine hA.Plus fun b hb=>?_ | refine hA.gb _ _ fun vb hvb=>?_ | refine hA.mset _ _ _ _ fun ml hml=>?_);cbv) | ((with_reducible first | refine hA.Sto ?_ fun ds hds=>?_ | refine hA.Sapp ?_ fun sl hsl=>?_);rotate_left;cbv) | ((with_reducible refine hA.mget _ _ _ _ ⟨fun mv hmv=>?_,fun hmv=>?_⟩) <;>cbv) | refine WL ?_ | fail
   all_goals try simp only [hA.sm,n_cast] at *
   all_goals first
    | omega
    | (refine hK4 w ml jw hml _ (Weak.ren (l0:= []) [0,1] (fun t=> [(19,.int (i+1)),(18,.int zz),(17,.e (.sl x)),(4,.int w),(3,.mp (t 1)),(2,.bool false),(1,.ref (t 0) 0)]) (fun t=> [.box [.e (.sl x)],.smap ml]) rfl ⟨.inl rfl,.inl rfl,.inl rfl,.inl rfl,.inl rfl,.inl rfl,.inl rfl,trivial⟩ ⟨rfl,rfl,trivial⟩ ⟨fun t=>rfl,rfl,fun t=>rfl,by simp [O.lt,lts,D.lt]⟩))
    | (clear hK4 hml hmv;simp at *;omega)
 ·have hd0:ts.drop i.toNat= []:=by rw [List.drop_eq_nil_iff];omega
  rw [hd0] at h3
  have h3:rows+0=sumC rlen ts:=h3
  have hr3:=d3 h50 fun j t ht=>h4 j t (by have:=(List.getElem?_eq_some_iff.1 ht).1;omega) ht
  clear hK h4 h5 d1 d2 d3
  cbv
  repeat' first | exact W1 | refine WA ?_ ?_ | with_reducible intro hcc | refine WS ?_ | (exfalso;simp only [hA.lt,hA.sub,decide_eq_true_eq,decide_eq_false_iff_not,n_cast] at *;omega) | refine W6 ?_ | ((with_reducible first | refine hA.Len fun z hz hb=>?_ | refine hA.Off fun b hb=>?_ | refine hA.Plus fun b hb=>?_ | refine hA.gb _ _ fun vb hvb=>?_ | refine hA.mset _ _ _ _ fun ml hml=>?_);cbv) | ((with_reducible first | refine hA.Sto ?_ fun ds hds=>?_ | refine hA.Sapp ?_ fun sl hsl=>?_);rotate_left;cbv) | ((with_reducible refine hA.mget _ _ _ _ ⟨fun mv hmv=>?_,fun hmv=>?_⟩) <;>cbv) | refine WL ?_ | fail
  all_goals try simp only [hA.sm,n_cast] at *
  all_goals first
   | (rw [hr3,<-h3,Int.add_zero];done)
   | omega)
end Go.Proofs.YtfplalbognalkaaGreat.Ab
/- Plans: in order, by both; the ranges of widths. -/
namespace Go.Proofs.YtfplalbognalkaaGreat.Ab
open Go
theorem frN_le (ns:List Pd): ∀(n:Nat) (i:Int),-1<=i->frN ns n i<=i
 | 0,i,h=>by simp only [frN];omega
 | n+1,i,h=>by
  unfold frN
  split
  ·exact chain_le _ _ h fun j h1 h2=>frN_le ns n j (by omega)
  ·omega
theorem frN_fuel (ns:List Pd): ∀(n m:Nat) (i:Int),0<=i->i<n->i<m->frN ns n i=frN ns m i
 | 0,_,_,_,h,_=>by omega
 | _,0,_,_,_,h=>by omega
 | n+1,m+1,i,h0,h1,h2=>by
  unfold frN
  split
  ·exact chain_congr _ _ fun j h3 h4=>⟨frN_fuel ns n m j h3 (by omega) (by omega),frN_le ns n j (by omega)⟩
  ·rfl
def fr (ns:List Pd) (i:Nat):Int:=frN ns (i+1) i
theorem fr_le (ns:List Pd) (i:Nat):fr ns i<=i:=frN_le ns _ _ (by omega)
theorem fr_eq (ns:List Pd) (i:Nat):fr ns i=if formP (ns.getD i default)=true then chain (fun j=>fr ns j.toNat) (kidsP (ns.getD i default)) i else-1:=by
 rw [fr,frN,Int.toNat_natCast]
 split
 ·exact chain_congr _ _ fun j h1 h2=>⟨by
   rw [fr,show ((j.toNat:Nat):Int)=j by omega]
   exact frN_fuel ns _ _ j h1 (by omega) (by omega),frN_le ns i j (by omega)⟩
 ·rfl
theorem fr_kids {ns:List Pd} {i:Nat} (h:0<=fr ns i):formP (ns.getD i default)=true/\(∀k∈kidsP (ns.getD i default),0<=k/\k<i/\0<=fr ns k.toNat)/\ ∀j:Int,fr ns i<=j->j<i-> ∃k∈kidsP (ns.getD i default),fr ns k.toNat<=j/\j<=k:=by
 have e:=fr_eq ns i
 split at e
 ·rename_i hf
  rw [e] at h
  obtain ⟨q1,q2⟩:=chain_mem (f:=fun j=>fr ns j.toNat) (fun j hj=>by have:=fr_le ns j.toNat;omega) _ _ h
  rw [<-e] at q2
  exact ⟨hf,q1,q2⟩
 ·omega
theorem fr_all {ns:List Pd} : ∀(n i:Nat),i<n->0<=fr ns i-> ∀j:Nat,fr ns i<=j->j<=i->0<=fr ns j
 | 0,_,h,_,_,_,_=>by omega
 | n+1,i,hn,h,j,h1,h2=>by
  rcases Nat.lt_or_ge j i with hji | hji
  ·obtain ⟨_,q1,q2⟩:=fr_kids h
   obtain ⟨k,k1,k2,k3⟩:=q2 j h1 (by omega)
   obtain ⟨a,b,c⟩:=q1 k k1
   exact fr_all n k.toNat (by omega) c j k2 (by omega)
  ·have:j=i:=by omega
   subst this
   exact h
def ordOk (ns:List Pd):Bool:=decide (1<=ns.length/\ns.length<=2000)&&decide (fr ns (ns.length-1)=0)
theorem ord_all {ns:List Pd} (h:ordOk ns=true): ∀j:Nat,j<ns.length->0<=fr ns j:=fun j hj=>by
 simp only [ordOk,Bool.and_eq_true,decide_eq_true_eq] at h
 exact fr_all ns.length (ns.length-1) (by omega) (by omega) j (by omega) (by omega)
theorem fr_in {ns:List Pd} {i:Nat} (h:0<=fr ns i):(1<=(ns.getD i default).K/\(ns.getD i default).K<=10)/\(hasL (ns.getD i default).K=true->0<=(ns.getD i default).L/\(ns.getD i default).L<i)/\(hasR (ns.getD i default).K=true->0<=(ns.getD i default).R/\(ns.getD i default).R<i):=by
 obtain ⟨h1,h2,_⟩:=fr_kids h
 simp only [formP,Bool.and_eq_true,decide_eq_true_eq] at h1
 refine ⟨h1.1,fun a=>?_,fun a=>?_⟩
 ·obtain ⟨x,y,_⟩:=h2 (ns.getD i default).L (List.mem_append.2 (.inr (by rw [if_pos a];exact List.mem_singleton.2 rfl)));exact ⟨x,y⟩
 ·obtain ⟨x,y,_⟩:=h2 (ns.getD i default).R (List.mem_append.2 (.inl (by rw [if_pos a];exact List.mem_singleton.2 rfl)));exact ⟨x,y⟩
theorem ord_in {ns:List Pd} (h:ordOk ns=true):InP ns:=fun j h0 h1=>by
 have:=fr_in (ord_all h j.toNat (by omega))
 rw [show ((j.toNat:Nat):Int)=j by omega] at this
 exact this
theorem l3F_ord {ns:List Pd} (h:1<=ns.length/\ns.length<=2000):ordOk ns=decide (l3F ns ns.length ((ns.length:Int)-1)=0):=by
 rw [<-frN_eq ns _ _ (by omega),ordOk,decide_eq_true h,Bool.true_and,fr,show ns.length-1+1=ns.length by omega,show ((ns.length-1:Nat):Int)=(ns.length:Int)-1 by omega]
def planW (ns:List Pd) (ts:List Tb):Int:=if dbOk ts=true/\ordOk ns=true then wS ns ts.length (colsOf ts) ns.length ((ns.length:Int)-1) 0 else-1
theorem ndS_rng {d:Pd} {cols:Int->Int} {env l r:Int} (h:0<=ndS d cols env l r):env+ndS d cols env l r<=200:=by
 unfold ndS at h ⊢
 simp only at h ⊢
 repeat' split at h
 all_goals first | omega | skip
 all_goals simp_all
 all_goals omega
theorem wS_rng {ns:List Pd} {nt:Int} {cols:Int->Int} {n:Nat} {i env:Int} (h:0<=wS ns nt cols n i env):env+wS ns nt cols n i env<=200:=by
 cases n with
 | zero=>simp [wS] at h
 | succ n=>
  have key: ∀(d:Pd) (u:Bool) (l r v:Int),(v=if u=false then-1 else if l<0 then-1 else if r<0 then-1 else ndS d cols env l r)->0<=v->env+v<=200:=fun d u l r v e h=>by
   subst e
   split at h
   ·omega
   ·rename_i h1
    split at h
    ·omega
    ·rename_i h2
     split at h
     ·omega
     ·rename_i h3
      rw [if_neg h1,if_neg h2,if_neg h3]
      exact ndS_rng h
  simp only [wS] at h ⊢
  exact key _ _ _ _ _ rfl h
end Go.Proofs.YtfplalbognalkaaGreat.Ab
/- Plans: the tree of operators that the program builds. -/
namespace Go.Proofs.YtfplalbognalkaaGreat.Ab
open Go
inductive Ot where
 | unit
 | scan (t:Tb)
 | filter (ex:List (Int×Int)) (l:Ot)
 | project (exs:List (List (Int×Int))) (l:Ot)
 | cross (l r:Ot) (dep:Bool)
 | mark (ex:List (Int×Int)) (l r:Ot)
 | agg (m:Int) (ex:List (Int×Int)) (l r:Ot)
 | distinct (l:Ot)
 | union (l r:Ot)
def Ot.T:Ot->TypeId
 | .unit=>255
 | .scan _=>257
 | .filter _ _=>259
 | .project _ _=>263
 | .cross _ _ _=>265
 | .mark _ _ _=>267
 | .agg _ _ _ _=>269
 | .distinct _=>271
 | .union _ _=>273
mutual
def Ot.cs:Ot->List E
 | .unit=> []
 | .scan t=>tbr t
 | .filter ex l=> [.sl (ex.map orow),l.E]
 | .project exs l=> [.sl (exs.map orr),l.E]
 | .cross l r dep=> [l.E,r.E,.bool dep]
 | .mark ex l r=> [.sl (ex.map orow),l.E,r.E]
 | .agg m ex l r=> [.int m,.sl (ex.map orow),l.E,r.E]
 | .distinct l=> [l.E]
 | .union l r=> [l.E,r.E]
def Ot.E:Ot->E
 | .unit=> .ia 255 []
 | .scan t=> .ia 257 (tbr t)
 | .filter ex l=> .ia 259 [.sl (ex.map orow),l.E]
 | .project exs l=> .ia 263 [.sl (exs.map orr),l.E]
 | .cross l r dep=> .ia 265 [l.E,r.E,.bool dep]
 | .mark ex l r=> .ia 267 [.sl (ex.map orow),l.E,r.E]
 | .agg m ex l r=> .ia 269 [.int m,.sl (ex.map orow),l.E,r.E]
 | .distinct l=> .ia 271 [l.E]
 | .union l r=> .ia 273 [l.E,r.E]
end
theorem Ot.E_eq (o:Ot):o.E= .ia o.T o.cs:=by cases o <;>simp [Ot.E,Ot.T,Ot.cs]
def Ot.w:Ot->Int
 | .unit=>0
 | .scan t=>t.2.1
 | .filter _ l=>l.w
 | .project exs _=>exs.length
 | .cross l r _=>l.w+r.w
 | .mark _ l _=>l.w+1
 | .agg _ _ l _=>l.w+1
 | .distinct l=>l.w
 | .union l _=>l.w
def Ot.sm:Ot->Prop
 | .unit=>True
 | .scan t=>0<=t.2.1/\t.2.1<=1000
 | .filter _ l=>l.sm
 | .project exs l=>exs.length<=1048576/\l.sm
 | .cross l r _=>(0<=l.w/\l.w<=1000/\0<=r.w/\r.w<=1000)/\l.sm/\r.sm
 | .mark _ l r=>(0<=l.w/\l.w<=1000)/\l.sm/\r.sm
 | .agg _ _ l r=>(0<=l.w/\l.w<=1000)/\l.sm/\r.sm
 | .distinct l=>l.sm
 | .union l r=>l.sm/\r.sm
def ndO (d:Pd) (ts:List Tb) (env:Int) (l r:Ot):Option Ot:=
 if d.K=1 then some .unit
 else if d.K=2 then (if d.T<0\/(ts.length:Int)<=d.T then none else some (.scan (ts.getD d.T.toNat ([],0, []))))
 else if d.K=3 then (if exOk d.Ex (env+l.w)=true then some (.filter d.Ex l) else none)
 else if d.K=4 then (if (d.Exs.any fun e=>!exOk e (env+l.w))=false then some (.project d.Exs l) else none)
 else if d.K=5\/d.K=6 then some (.cross l r (decide (d.K=6)))
 else if d.K=7 then (if exOk d.Ex (env+l.w+r.w)=true then some (.mark d.Ex l r) else none)
 else if d.K=8 then (if d.M=1\/exOk d.Ex (env+l.w+r.w)=true then some (.agg d.M d.Ex l r) else none)
 else if d.K=9 then some (.distinct l)
 else if d.K=10 then (if l.w=r.w then some (.union l r) else none)
 else none
def mkO (ns:List Pd) (ts:List Tb):Nat->Int->Int->Option Ot
 | 0,_,_=>none
 | n+1,i,env=>
  let d:=ns.getD i.toNat default
  if usedI d=false then none else
  match (if hasL d.K then mkO ns ts n d.L env else some .unit) with
  | none=>none
  | some l=>match (if hasR d.K then mkO ns ts n d.R (if depK d.K then env+l.w else env) else some .unit) with
   | none=>none
   | some r=>match ndO d ts env l r with
    | none=>none
    | some o=>if o.w+env>200 then none else some o
theorem nd_w (d:Pd) (ts:List Tb) (env:Int) (l r:Ot):(match ndO d ts env l r with | none=>none | some o=>if o.w+env>200 then none else some o.w)=ndI d ts.length (colsOf ts) env l.w r.w:=by
 have key:(ndO d ts env l r).map Ot.w=(if d.K=1 then some 0
  else if d.K=2 then (if d.T<0\/(ts.length:Int)<=d.T then none else some (colsOf ts d.T))
  else if d.K=3 then (if exOk d.Ex (env+l.w)=true then some l.w else none)
  else if d.K=4 then (if (d.Exs.any fun e=>!exOk e (env+l.w))=false then some (d.Exs.length:Int) else none)
  else if d.K=5\/d.K=6 then some (l.w+r.w)
  else if d.K=7 then (if exOk d.Ex (env+l.w+r.w)=true then some (l.w+1) else none)
  else if d.K=8 then (if d.M=1\/exOk d.Ex (env+l.w+r.w)=true then some (l.w+1) else none)
  else if d.K=9 then some l.w
  else if d.K=10 then (if l.w=r.w then some l.w else none)
  else none):=by
  unfold ndO
  repeat' split
  all_goals rfl
 rw [ndI,<-key]
 cases ndO d ts env l r <;>rfl
theorem mk_w (ns:List Pd) (ts:List Tb): ∀(n:Nat) (i env:Int),(mkO ns ts n i env).map Ot.w=wI ns ts.length (colsOf ts) n i env
 | 0,_,_=>rfl
 | n+1,i,env=>by
  have ih:=mk_w ns ts n
  obtain ⟨d,hd⟩: ∃d,d=ns.getD i.toNat default:=⟨_,rfl⟩
  simp only [mkO,wI]
  rw [<-hd]
  cases hu:usedI d
  ·simp
  simp only [Bool.true_eq_false,if_false]
  have e1:(if hasL d.K=true then wI ns ts.length (colsOf ts) n d.L env else some 0)=(if hasL d.K=true then mkO ns ts n d.L env else some .unit).map Ot.w:=by
   cases hasL d.K <;>simp [ih,Ot.w]
  rw [e1]
  cases hl:(if hasL d.K=true then mkO ns ts n d.L env else some Ot.unit) with
  | none=>simp
  | some l=>
   simp only [Option.map_some]
   have e2:(if hasR d.K=true then wI ns ts.length (colsOf ts) n d.R (if depK d.K then env+l.w else env) else some 0)=(if hasR d.K=true then mkO ns ts n d.R (if depK d.K then env+l.w else env) else some .unit).map Ot.w:=by
    cases hasR d.K <;>simp [ih,Ot.w]
   rw [e2]
   cases hr:(if hasR d.K=true then mkO ns ts n d.R (if depK d.K then env+l.w else env) else some Ot.unit) with
   | none=>simp
   | some r=>
    simp only [Option.map_some]
    rw [<-nd_w]
    cases ndO d ts env l r with
    | none=>rfl
    | some o=>
     simp only
     split <;>rfl
end Go.Proofs.YtfplalbognalkaaGreat.Ab
/- The code of helpers over expressions. -/
namespace Go.Proofs.YtfplalbognalkaaGreat.Ab
open Go
def c151:F:=⟨27, [(.tmp 4)],(.seq (.reg [ZA 4 (.mov (.c (.int 0)))]) (.seq (.reg [ZM 6 1,ZM 7 0,ZA 8 (.lenl 7),ZA 9 (.bin .sub 6 8),ZM 1 9]) (.seq (.seq (.reg [ZM 10 1,ZA 11 (.bin .lss 10 (.c (.int 0)))]) (.cond 11 (.seq (.reg [ZA 4 (.mov (.c (.int (-1))))]) .ret) .skip)) (.seq (.seq (.reg [ZA 5 (.mov (.c (.int 0)))]) (.block 0 (.loop (.seq (.seq (.reg [ZM 12 5,ZM 13 0,ZA 14 (.lenl 13),ZA 15 (.bin .lss 12 14)]) (.cond 15 .skip (.exit 0))) (.seq (.block 1 (.seq (.reg [ZM 18 0,ZM 19 5,ZA 20 (.iadr none 1 18 19),ZL 21 20,ZM 22 1,ZC 23 150 [21,22],ZM 1 23]) (.seq (.reg [ZM 24 1,ZA 25 (.bin .lss 24 (.c (.int 0)))]) (.cond 25 (.seq (.reg [ZA 4 (.mov (.c (.int (-1))))]) .ret) .skip)))) (.reg [ZM 16 5,ZA 17 (.bin .add 16 (.c (.int 1))),ZM 5 17])))))) (.seq (.reg [ZM 26 1,ZM 4 26]) .ret)))))⟩
theorem p151:prepF Tryz.prog 151=some c151:=by kernel_rfl
def c160:F:=⟨23, [(.tmp 2)],(.seq (.reg [ZA 2 (.mov (.c .zs))]) (.seq (.reg [ZM 5 0,ZA 6 (.lenl 5),ZA 7 (.mks [(.e (.sl []))] 6),ZM 3 7]) (.seq (.seq (.reg [ZA 4 (.mov (.c (.int 0)))]) (.block 0 (.loop (.seq (.seq (.reg [ZM 8 4,ZM 9 0,ZA 10 (.lenl 9),ZA 11 (.bin .lss 8 10)]) (.cond 11 .skip (.exit 0))) (.seq (.block 1 (.reg [ZM 14 3,ZM 15 4,ZM 16 0,ZM 17 4,ZA 18 (.iadr none 1 16 17),ZL 19 18,ZC 20 159 [19],ZA 21 (.iadr none 1 14 15),ZN (.store false 1 21 20)])) (.reg [ZM 12 4,ZA 13 (.bin .add 12 (.c (.int 1))),ZM 4 13])))))) (.seq (.reg [ZM 22 3,ZM 2 22]) .ret))))⟩
theorem p160:prepF Tryz.prog 160=some c160:=by kernel_rfl
def c217:F:=⟨9, [(.tmp 4)],(.seq (.reg [ZA 4 ZF0]) (.seq (.reg [ZM 5 0,ZM 6 1,ZC 7 236 [5,6],ZA 8 (.bin .geq 7 (.c (.int 0))),ZM 4 8]) .ret))⟩
theorem p217:prepF Tryz.prog 217=some c217:=by kernel_rfl
def c167:F:=⟨27, [(.tmp 4)],(.seq (.reg [ZA 4 ZF0]) (.seq (.seq (.reg [ZM 6 0,ZA 7 (.lenl 6),ZM 8 1,ZA 9 (.lenl 8),ZA 10 (.bin .neq 7 9)]) (.cond 10 (.seq (.reg [ZA 4 ZF0]) .ret) .skip)) (.seq (.seq (.reg [ZA 5 (.mov (.c (.int 0)))]) (.block 0 (.loop (.seq (.seq (.reg [ZM 11 5,ZM 12 0,ZA 13 (.lenl 12),ZA 14 (.bin .lss 11 13)]) (.cond 14 .skip (.exit 0))) (.seq (.block 1 (.seq (.dreg [⟨ZM 17 0, [], [0]⟩,⟨ZM 18 5, [0], [5]⟩,⟨ZA 19 (.iadr none 1 17 18), [], [17,18]⟩,⟨ZL 20 19, [], [19]⟩,⟨ZM 21 1, [0,1,2,3], [1]⟩,⟨ZM 22 5, [0,1,2,3,4], [5]⟩,⟨ZA 23 (.iadr none 1 21 22), [0,1,2,3], [21,22]⟩,⟨ZL 24 23, [0,1,2,3], [23]⟩,⟨ZC 25 166 [20,24], [], [20,24]⟩,⟨ZA 26 (.un .not 25), [], [25]⟩]) (.cond 26 (.seq (.reg [ZA 4 ZF0]) .ret) .skip))) (.reg [ZM 15 5,ZA 16 (.bin .add 15 (.c (.int 1))),ZM 5 16])))))) (.seq (.reg [ZA 4 ZT0]) .ret))))⟩
theorem p167:prepF Tryz.prog 167=some c167:=by kernel_rfl
def c236:F:=⟨19, [(.tmp 4)],(.seq (.reg [ZA 4 (.mov (.c (.int 0)))]) (.seq (.seq (.reg [ZM 6 0,ZA 7 (.lenl 6),ZA 8 (.mov (.c (.int 0)))]) (.block 0 (.loop (.seq (.reg [ZA 9 (.bin .lss 8 7)]) (.seq (.cond 9 .skip (.exit 0)) (.seq (.block 1 (.seq (.reg [ZM 10 8,ZM 5 10]) (.seq (.reg [ZM 11 1,ZM 12 0,ZM 13 5,ZA 14 (.iadr none 1 12 13),ZL 15 14,ZA 16 (.callv 11 [15])]) (.cond 16 (.seq (.reg [ZM 17 5,ZM 4 17]) .ret) .skip)))) (.reg [ZA 18 (.bin .add 8 (.c (.int 1))),ZM 8 18]))))))) (.seq (.reg [ZA 4 (.mov (.c (.int (-1))))]) .ret)))⟩
theorem p236:prepF Tryz.prog 236=some c236:=by kernel_rfl
end Go.Proofs.YtfplalbognalkaaGreat.Ab
/- The code of what PlanOk reaches. -/
namespace Go.Proofs.YtfplalbognalkaaGreat.Ab
open Go
def c6:F:=⟨12, [(.tmp 4)],(.seq (.reg [ZA 2 (.box 0),ZA 4 (.mov (.c (.int 0)))]) (.seq (.reg [ZE 5 0 2,ZL 6 5,ZM 7 1,ZC 8 31 [6,7],ZM 1 8]) (.seq (.seq (.reg [ZM 9 1,ZA 10 (.bin .lss 9 (.c (.int 0)))]) (.cond 10 (.seq (.reg [ZA 4 (.mov (.c (.int (-1))))]) .ret) .skip)) (.seq (.reg [ZM 11 1,ZM 4 11]) .ret))))⟩
theorem p6:prepF Tryz.prog 6=some c6:=by kernel_rfl
def c33:F:=⟨38, [(.tmp 4),(.tmp 5)],(.seq (.reg [ZA 2 (.box 0),ZA 3 (.box 1),ZA 4 (.mov (.c (.int 0))),ZA 5 ZF0]) (.seq (.reg [ZE 8 0 2,ZL 9 8,ZA 10 (.lenl 9),ZM 6 10]) (.seq (.seq (.reg [ZA 11 (.load true 1 3),ZC 12 78 [11],ZA 13 (.un .not 12),ZM 14 13,ZF 15 14 (.mov 6),ZF 16 14 (.bin .lss 15 (.c (.int 1))),ZA 17 (.pick 14 (.c (.bool true)) 16),ZM 18 17,ZF 19 18 (.mov 6),ZF 20 18 (.bin .gtr 19 (.c (.int 2000))),ZA 21 (.pick 18 (.c (.bool true)) 20),ZM 22 21,ZF 23 22 (.fadr 0 2),ZF 24 22 (.load false 1 23),ZF 25 22 (.mov 6),ZF 26 22 (.bin .sub 25 (.c (.int 1))),ZF 27 22 (.call 79 [24,26]),ZF 28 22 (.bin .neq 27 (.c (.int 0))),ZA 29 (.pick 22 (.c (.bool true)) 28)]) (.cond 29 (.seq (.reg [ZA 4 (.mov (.c (.int 0))),ZA 5 ZF0]) .ret) .skip)) (.seq (.reg [ZA 30 (.load true 1 2),ZA 31 (.load true 1 3),ZM 32 6,ZA 33 (.bin .sub 32 (.c (.int 1))),ZC 34 80 [30,31,33,(.c (.int 0))],ZM 7 34]) (.seq (.seq (.reg [ZM 35 7,ZA 36 (.bin .lss 35 (.c (.int 0)))]) (.cond 36 (.seq (.reg [ZA 4 (.mov (.c (.int 0))),ZA 5 ZF0]) .ret) .skip)) (.seq (.reg [ZM 37 7,ZM 4 37,ZA 5 ZT0]) .ret))))))⟩
theorem p33:prepF Tryz.prog 33=some c33:=by kernel_rfl
def c9:F:=⟨9, [(.cell 2 true 1)],(.seq (.reg [ZA 1 (.box 0),ZA 2 (.alloc [(.e (.sl []))])]) (.seq (.reg [ZA 3 (.alloc [(.e (.sl []))])]) (.seq (.reg [ZE 4 0 1,ZL 5 4,ZC 6 35 [5],ZE 7 0 3,ZN (.store false 1 7 6)]) (.seq (.reg [ZA 8 (.load true 1 3),ZN (.store true 1 2 8)]) .ret))))⟩
theorem p9:prepF Tryz.prog 9=some c9:=by kernel_rfl
def c13:F:=⟨11, [(.tmp 4)],(.seq (.reg [ZA 2 (.box 0),ZA 3 (.box 1),ZA 4 ZF0]) (.seq (.seq (.reg [ZE 5 0 2,ZL 6 5,ZE 7 0 3,ZL 8 7,ZC 9 41 [6,8],ZA 10 (.un .not 9)]) (.cond 10 (.seq (.reg [ZA 4 ZF0]) .ret) .skip)) (.seq (.reg [ZA 4 ZT0]) .ret)))⟩
theorem p13:prepF Tryz.prog 13=some c13:=by kernel_rfl
def c31:F:=⟨27, [(.tmp 4)],(.seq (.reg [ZA 4 (.mov (.c (.int 0)))]) (.seq (.reg [ZM 6 1,ZM 7 0,ZA 8 (.lenl 7),ZA 9 (.bin .sub 6 8),ZM 1 9]) (.seq (.seq (.reg [ZM 10 1,ZA 11 (.bin .lss 10 (.c (.int 0)))]) (.cond 11 (.seq (.reg [ZA 4 (.mov (.c (.int (-1))))]) .ret) .skip)) (.seq (.seq (.reg [ZA 5 (.mov (.c (.int 0)))]) (.block 0 (.loop (.seq (.seq (.reg [ZM 12 5,ZM 13 0,ZA 14 (.lenl 13),ZA 15 (.bin .lss 12 14)]) (.cond 15 .skip (.exit 0))) (.seq (.block 1 (.seq (.reg [ZM 18 0,ZM 19 5,ZA 20 (.iadr none 7 18 19),ZA 21 (.load true 7 20),ZM 22 1,ZC 23 76 [21,22],ZM 1 23]) (.seq (.reg [ZM 24 1,ZA 25 (.bin .lss 24 (.c (.int 0)))]) (.cond 25 (.seq (.reg [ZA 4 (.mov (.c (.int (-1))))]) .ret) .skip)))) (.reg [ZM 16 5,ZA 17 (.bin .add 16 (.c (.int 1))),ZM 5 17])))))) (.seq (.reg [ZM 26 1,ZM 4 26]) .ret)))))⟩
theorem p31:prepF Tryz.prog 31=some c31:=by kernel_rfl
def c79:F:=⟨75, [(.tmp 4)],(.seq (.reg [ZA 4 (.mov (.c (.int 0)))]) (.seq (.seq (.reg [ZM 8 1,ZA 9 (.bin .lss 8 (.c (.int 0))),ZM 10 9,ZF 11 10 (.mov 0),ZF 12 10 (.mov 1),ZF 13 10 (.iadr none 7 11 12),ZF 14 10 (.fadr 0 13),ZF 15 10 (.load false 1 14),ZF 16 10 (.call 155 [15]),ZF 17 10 (.bin .lss 16 (.c (.int 0))),ZA 18 (.pick 10 (.c (.bool true)) 17)]) (.cond 18 (.seq (.reg [ZA 4 (.mov (.c (.int (-1))))]) .ret) .skip)) (.seq (.reg [ZM 19 0,ZM 20 1,ZA 21 (.iadr none 7 19 20),ZA 22 (.load true 7 21),ZA 5 (.alloc [(.int 0),(.int 0),(.int 0),(.e (.sl [])),(.e (.sl [])),(.int 0),(.int 0)]),ZN (.store true 7 5 22)]) (.seq (.reg [ZE 23 0 5,ZL 24 23,ZC 25 155 [24],ZM 6 25]) (.seq (.seq (.reg [ZM 26 6,ZA 27 (.bin .eql 26 (.c (.int 0)))]) (.cond 27 (.seq (.seq (.reg [ZE 28 5 5,ZL 29 28,ZA 30 (.bin .neq 29 (.c (.int 0))),ZM 31 30,ZF 32 31 (.fadr 6 5),ZF 33 31 (.load false 1 32),ZF 34 31 (.bin .neq 33 (.c (.int 0))),ZA 35 (.pick 31 (.c (.bool true)) 34)]) (.cond 35 (.seq (.reg [ZA 4 (.mov (.c (.int (-1))))]) .ret) .skip)) (.seq (.reg [ZM 36 1,ZM 4 36]) .ret)) .skip)) (.seq (.seq (.reg [ZM 37 6,ZA 38 (.bin .eql 37 (.c (.int 1)))]) (.cond 38 (.seq (.seq (.reg [ZE 39 5 5,ZL 40 39,ZM 41 1,ZA 42 (.bin .sub 41 (.c (.int 1))),ZA 43 (.bin .neq 40 42),ZM 44 43,ZF 45 44 (.fadr 6 5),ZF 46 44 (.load false 1 45),ZF 47 44 (.bin .neq 46 (.c (.int 0))),ZA 48 (.pick 44 (.c (.bool true)) 47)]) (.cond 48 (.seq (.reg [ZA 4 (.mov (.c (.int (-1))))]) .ret) .skip)) (.seq (.reg [ZM 49 0,ZM 50 1,ZA 51 (.bin .sub 50 (.c (.int 1))),ZC 52 79 [49,51],ZM 4 52]) .ret)) .skip)) (.seq (.seq (.reg [ZE 53 6 5,ZL 54 53,ZM 55 1,ZA 56 (.bin .sub 55 (.c (.int 1))),ZA 57 (.bin .neq 54 56)]) (.cond 57 (.seq (.reg [ZA 4 (.mov (.c (.int (-1))))]) .ret) .skip)) (.seq (.reg [ZM 58 0,ZM 59 1,ZA 60 (.bin .sub 59 (.c (.int 1))),ZC 61 79 [58,60],ZM 7 61]) (.seq (.seq (.reg [ZM 62 7,ZA 63 (.bin .lss 62 (.c (.int 1))),ZM 64 63,ZF 65 64 (.fadr 5 5),ZF 66 64 (.load false 1 65),ZF 67 64 (.mov 7),ZF 68 64 (.bin .sub 67 (.c (.int 1))),ZF 69 64 (.bin .neq 66 68),ZA 70 (.pick 64 (.c (.bool true)) 69)]) (.cond 70 (.seq (.reg [ZA 4 (.mov (.c (.int (-1))))]) .ret) .skip)) (.seq (.reg [ZM 71 0,ZM 72 7,ZA 73 (.bin .sub 72 (.c (.int 1))),ZC 74 79 [71,73],ZM 4 74]) .ret))))))))))⟩
theorem p79:prepF Tryz.prog 79=some c79:=by kernel_rfl
def c80:F:=⟨145, [(.tmp 8)],(.seq (.reg [ZA 4 (.box 0),ZA 5 (.box 1),ZA 8 (.mov (.c (.int 0)))]) (.seq (.reg [ZE 14 0 4,ZL 15 14,ZM 16 2,ZA 17 (.iadr none 7 15 16),ZA 18 (.load true 7 17),ZA 9 (.alloc [(.int 0),(.int 0),(.int 0),(.e (.sl [])),(.e (.sl [])),(.int 0),(.int 0)]),ZN (.store true 7 9 18)]) (.seq (.seq (.reg [ZA 19 (.load true 7 9),ZA 20 (.load true 1 5),ZC 21 156 [19,20],ZA 22 (.un .not 21)]) (.cond 22 (.seq (.reg [ZA 8 (.mov (.c (.int (-1))))]) .ret) .skip)) (.seq (.reg [ZA 10 (.mov (.c (.int 0)))]) (.seq (.reg [ZA 11 (.mov (.c (.int 0)))]) (.seq (.seq (.reg [ZE 23 0 9,ZL 24 23,ZC 25 155 [24],ZA 26 (.bin .gtr 25 (.c (.int 0)))]) (.cond 26 (.seq (.reg [ZA 27 (.load true 1 4),ZA 28 (.load true 1 5),ZE 29 5 9,ZL 30 29,ZM 31 3,ZC 32 80 [27,28,30,31],ZM 10 32]) (.seq (.reg [ZM 33 10,ZA 34 (.bin .lss 33 (.c (.int 0)))]) (.cond 34 (.seq (.reg [ZA 8 (.mov (.c (.int (-1))))]) .ret) .skip))) .skip)) (.seq (.seq (.reg [ZE 35 0 9,ZL 36 35,ZC 37 155 [36],ZA 38 (.bin .gtr 37 (.c (.int 1)))]) (.cond 38 (.seq (.dreg [⟨ZA 39 (.load true 1 4), [], [4]⟩,⟨ZA 40 (.load true 1 5), [0], [5]⟩,⟨ZE 41 6 9, [0,1], [9]⟩,⟨ZL 42 41, [0,1], [41]⟩,⟨ZE 43 0 9, [0,1,2,3], [9]⟩,⟨ZL 44 43, [0,1,2,3], [43]⟩,⟨ZM 45 3, [0,1,2,3,4,5], [3]⟩,⟨ZM 46 10, [0,1,2,3,4,5,6], [10]⟩,⟨ZC 47 157 [44,45,46], [0,1,2,3], [44,45,46]⟩,⟨ZC 48 80 [39,40,42,47], [], [39,40,42,47]⟩,⟨ZM 11 48, [], [48]⟩]) (.seq (.reg [ZM 49 11,ZA 50 (.bin .lss 49 (.c (.int 0)))]) (.cond 50 (.seq (.reg [ZA 8 (.mov (.c (.int (-1))))]) .ret) .skip))) .skip)) (.seq (.reg [ZM 51 10,ZM 12 51]) (.seq (.seq (.reg [ZE 52 0 9,ZL 53 52,ZA 54 (.bin .eql 53 (.c (.int 2)))]) (.cond 54 (.reg [ZE 55 0 5,ZL 56 55,ZE 57 1 9,ZL 58 57,ZA 59 (.iadr none 3 56 58),ZE 60 1 59,ZL 61 60,ZM 12 61]) .skip)) (.seq (.seq (.reg [ZE 62 0 9,ZL 63 62,ZA 64 (.bin .eql 63 (.c (.int 3))),ZM 65 64,ZT 66 65 (.fadr 3 9),ZT 67 65 (.load false 1 66),ZT 68 65 (.mov 3),ZT 69 65 (.mov 10),ZT 70 65 (.bin .add 68 69),ZT 71 65 (.call 158 [67,70]),ZT 72 65 (.un .not 71),ZA 73 (.pick 65 72 (.c (.bool false)))]) (.cond 73 (.seq (.reg [ZA 8 (.mov (.c (.int (-1))))]) .ret) .skip)) (.seq (.seq (.reg [ZE 74 0 9,ZL 75 74,ZA 76 (.bin .eql 75 (.c (.int 4)))]) (.cond 76 (.seq (.seq (.reg [ZA 13 (.mov (.c (.int 0)))]) (.block 0 (.loop (.seq (.seq (.reg [ZM 77 13,ZE 78 4 9,ZL 79 78,ZA 80 (.lenl 79),ZA 81 (.bin .lss 77 80)]) (.cond 81 .skip (.exit 0))) (.seq (.block 1 (.seq (.reg [ZE 84 4 9,ZL 85 84,ZM 86 13,ZA 87 (.iadr none 1 85 86),ZL 88 87,ZM 89 3,ZM 90 10,ZA 91 (.bin .add 89 90),ZC 92 158 [88,91],ZA 93 (.un .not 92)]) (.cond 93 (.seq (.reg [ZA 8 (.mov (.c (.int (-1))))]) .ret) .skip))) (.reg [ZM 82 13,ZA 83 (.bin .add 82 (.c (.int 1))),ZM 13 83])))))) (.reg [ZE 94 4 9,ZL 95 94,ZA 96 (.lenl 95),ZM 12 96])) .skip)) (.seq (.seq (.reg [ZE 97 0 9,ZL 98 97,ZA 99 (.bin .eql 98 (.c (.int 5))),ZM 100 99,ZF 101 100 (.fadr 0 9),ZF 102 100 (.load false 1 101),ZF 103 100 (.bin .eql 102 (.c (.int 6))),ZA 104 (.pick 100 (.c (.bool true)) 103)]) (.cond 104 (.reg [ZM 105 10,ZM 106 11,ZA 107 (.bin .add 105 106),ZM 12 107]) .skip)) (.seq (.seq (.reg [ZE 108 0 9,ZL 109 108,ZA 110 (.bin .eql 109 (.c (.int 7))),ZM 111 110,ZF 112 111 (.fadr 0 9),ZF 113 111 (.load false 1 112),ZF 114 111 (.bin .eql 113 (.c (.int 8))),ZA 115 (.pick 111 (.c (.bool true)) 114)]) (.cond 115 (.seq (.seq (.reg [ZE 116 2 9,ZL 117 116,ZA 118 (.bin .neq 117 (.c (.int 1))),ZM 119 118,ZT 120 119 (.fadr 3 9),ZT 121 119 (.load false 1 120),ZT 122 119 (.mov 3),ZT 123 119 (.mov 10),ZT 124 119 (.bin .add 122 123),ZT 125 119 (.mov 11),ZT 126 119 (.bin .add 124 125),ZT 127 119 (.call 158 [121,126]),ZT 128 119 (.un .not 127),ZA 129 (.pick 119 128 (.c (.bool false)))]) (.cond 129 (.seq (.reg [ZA 8 (.mov (.c (.int (-1))))]) .ret) .skip)) (.reg [ZM 130 10,ZA 131 (.bin .add 130 (.c (.int 1))),ZM 12 131])) .skip)) (.seq (.seq (.reg [ZE 132 0 9,ZL 133 132,ZA 134 (.bin .eql 133 (.c (.int 10))),ZM 135 134,ZT 136 135 (.mov 10),ZT 137 135 (.mov 11),ZT 138 135 (.bin .neq 136 137),ZA 139 (.pick 135 138 (.c (.bool false)))]) (.cond 139 (.seq (.reg [ZA 8 (.mov (.c (.int (-1))))]) .ret) .skip)) (.seq (.seq (.reg [ZM 140 3,ZM 141 12,ZA 142 (.bin .add 140 141),ZA 143 (.bin .gtr 142 (.c (.int 200)))]) (.cond 143 (.seq (.reg [ZA 8 (.mov (.c (.int (-1))))]) .ret) .skip)) (.seq (.reg [ZM 144 12,ZM 8 144]) .ret))))))))))))))))⟩
theorem p80:prepF Tryz.prog 80=some c80:=by kernel_rfl
def c35:F:=⟨23, [(.tmp 2)],(.seq (.reg [ZA 2 (.mov (.c .zs))]) (.seq (.reg [ZM 5 0,ZA 6 (.lenl 5),ZA 7 (.mks [(.int 0),(.int 0),(.int 0),(.e (.sl [])),(.e (.sl [])),(.int 0),(.int 0)] 6),ZM 3 7]) (.seq (.seq (.reg [ZA 4 (.mov (.c (.int 0)))]) (.block 0 (.loop (.seq (.seq (.reg [ZM 8 4,ZM 9 0,ZA 10 (.lenl 9),ZA 11 (.bin .lss 8 10)]) (.cond 11 .skip (.exit 0))) (.seq (.block 1 (.reg [ZM 14 3,ZM 15 4,ZM 16 0,ZM 17 4,ZA 18 (.iadr none 7 16 17),ZA 19 (.load true 7 18),ZC 20 84 [19],ZA 21 (.iadr none 7 14 15),ZN (.store true 7 21 20)])) (.reg [ZM 12 4,ZA 13 (.bin .add 12 (.c (.int 1))),ZM 4 13])))))) (.seq (.reg [ZM 22 3,ZM 2 22]) .ret))))⟩
theorem p35:prepF Tryz.prog 35=some c35:=by kernel_rfl
def c37:F:=⟨28, [(.tmp 4)],(.seq (.reg [ZA 2 (.box 0),ZA 3 (.box 1),ZA 4 (.mov (.c (.e (.v .nilIface))))]) (.seq (.reg [ZA 8 (.load true 1 2),ZC 9 86 [8],ZM 7 9,ZA 10 (.ext 0 7),ZA 11 (.ext 1 7),ZM 5 10,ZM 6 11]) (.seq (.seq (.reg [ZM 12 6,ZA 13 (.un .not 12),ZM 14 13,ZF 15 14 (.load true 1 3),ZF 16 14 (.call 61 [15]),ZF 17 14 (.un .not 16),ZA 18 (.pick 14 (.c (.bool true)) 17)]) (.cond 18 (.seq (.reg [ZA 4 (.mov (.c (.e (.v .nilIface))))]) .ret) .skip)) (.seq (.reg [ZA 19 (.load true 1 2),ZA 20 (.load true 1 3),ZM 21 5,ZA 22 (.build [.zs,.zs,.zs] [(0,(1,19)),(1,(1,20)),(2,(1,21))]),ZE 23 0 2,ZL 24 23,ZA 25 (.lenl 24),ZA 26 (.bin .sub 25 (.c (.int 1))),ZC 27 87 [22,26,(.c (.int 0))],ZM 4 27]) .ret))))⟩
theorem p37:prepF Tryz.prog 37=some c37:=by kernel_rfl
def c41:F:=⟨27, [(.tmp 4)],(.seq (.reg [ZA 4 ZF0]) (.seq (.seq (.reg [ZM 6 0,ZA 7 (.lenl 6),ZM 8 1,ZA 9 (.lenl 8),ZA 10 (.bin .neq 7 9)]) (.cond 10 (.seq (.reg [ZA 4 ZF0]) .ret) .skip)) (.seq (.seq (.reg [ZA 5 (.mov (.c (.int 0)))]) (.block 0 (.loop (.seq (.seq (.reg [ZM 11 5,ZM 12 0,ZA 13 (.lenl 12),ZA 14 (.bin .lss 11 13)]) (.cond 14 .skip (.exit 0))) (.seq (.block 1 (.seq (.dreg [⟨ZM 17 0, [], [0]⟩,⟨ZM 18 5, [0], [5]⟩,⟨ZA 19 (.iadr none 7 17 18), [], [17,18]⟩,⟨ZA 20 (.load true 7 19), [], [19]⟩,⟨ZM 21 1, [0,1,2,3], [1]⟩,⟨ZM 22 5, [0,1,2,3,4], [5]⟩,⟨ZA 23 (.iadr none 7 21 22), [0,1,2,3], [21,22]⟩,⟨ZA 24 (.load true 7 23), [0,1,2,3], [23]⟩,⟨ZC 25 93 [20,24], [], [20,24]⟩,⟨ZA 26 (.un .not 25), [], [25]⟩]) (.cond 26 (.seq (.reg [ZA 4 ZF0]) .ret) .skip))) (.reg [ZM 15 5,ZA 16 (.bin .add 15 (.c (.int 1))),ZM 5 16])))))) (.seq (.reg [ZA 4 ZT0]) .ret))))⟩
theorem p41:prepF Tryz.prog 41=some c41:=by kernel_rfl
def c115:F:=⟨9, [(.tmp 2)],(.seq (.reg [ZA 2 ZF0]) (.seq (.reg [ZM 3 0,ZA 4 (.bin .geq 3 (.c (.int 3))),ZM 5 4,ZT 6 5 (.mov 0),ZT 7 5 (.bin .leq 6 (.c (.int 10))),ZA 8 (.pick 5 7 (.c (.bool false))),ZM 2 8]) .ret))⟩
theorem p115:prepF Tryz.prog 115=some c115:=by kernel_rfl
def c116:F:=⟨13, [(.tmp 2)],(.seq (.reg [ZA 2 ZF0]) (.seq (.reg [ZM 3 0,ZA 4 (.bin .geq 3 (.c (.int 5))),ZM 5 4,ZT 6 5 (.mov 0),ZT 7 5 (.bin .leq 6 (.c (.int 8))),ZA 8 (.pick 5 7 (.c (.bool false))),ZM 9 8,ZF 10 9 (.mov 0),ZF 11 9 (.bin .eql 10 (.c (.int 10))),ZA 12 (.pick 9 (.c (.bool true)) 11),ZM 2 12]) .ret))⟩
theorem p116:prepF Tryz.prog 116=some c116:=by kernel_rfl
def c117:F:=⟨13, [(.tmp 2)],(.seq (.reg [ZA 2 ZF0]) (.seq (.reg [ZM 3 0,ZA 4 (.bin .eql 3 (.c (.int 6))),ZM 5 4,ZF 6 5 (.mov 0),ZF 7 5 (.bin .eql 6 (.c (.int 7))),ZA 8 (.pick 5 (.c (.bool true)) 7),ZM 9 8,ZF 10 9 (.mov 0),ZF 11 9 (.bin .eql 10 (.c (.int 8))),ZA 12 (.pick 9 (.c (.bool true)) 11),ZM 2 12]) .ret))⟩
theorem p117:prepF Tryz.prog 117=some c117:=by kernel_rfl
def c76:F:=⟨18, [(.tmp 4)],(.seq (.reg [ZA 2 (.box 0),ZA 4 (.mov (.c (.int 0)))]) (.seq (.reg [ZE 5 3 2,ZL 6 5,ZM 7 1,ZC 8 150 [6,7],ZM 1 8]) (.seq (.seq (.reg [ZM 9 1,ZA 10 (.bin .lss 9 (.c (.int 0)))]) (.cond 10 (.seq (.reg [ZA 4 (.mov (.c (.int (-1))))]) .ret) .skip)) (.seq (.reg [ZE 11 4 2,ZL 12 11,ZM 13 1,ZC 14 151 [12,13],ZM 1 14]) (.seq (.seq (.reg [ZM 15 1,ZA 16 (.bin .lss 15 (.c (.int 0)))]) (.cond 16 (.seq (.reg [ZA 4 (.mov (.c (.int (-1))))]) .ret) .skip)) (.seq (.reg [ZM 17 1,ZM 4 17]) .ret))))))⟩
theorem p76:prepF Tryz.prog 76=some c76:=by kernel_rfl
def c155:F:=⟨25, [(.tmp 2)],(.seq (.reg [ZA 2 (.mov (.c (.int 0)))]) (.seq (.seq (.reg [ZM 3 0,ZA 4 (.bin .eql 3 (.c (.int 1))),ZM 5 4,ZF 6 5 (.mov 0),ZF 7 5 (.bin .eql 6 (.c (.int 2))),ZA 8 (.pick 5 (.c (.bool true)) 7)]) (.cond 8 (.seq (.reg [ZA 2 (.mov (.c (.int 0)))]) .ret) .skip)) (.seq (.seq (.reg [ZM 9 0,ZA 10 (.bin .eql 9 (.c (.int 3))),ZM 11 10,ZF 12 11 (.mov 0),ZF 13 11 (.bin .eql 12 (.c (.int 4))),ZA 14 (.pick 11 (.c (.bool true)) 13),ZM 15 14,ZF 16 15 (.mov 0),ZF 17 15 (.bin .eql 16 (.c (.int 9))),ZA 18 (.pick 15 (.c (.bool true)) 17)]) (.cond 18 (.seq (.reg [ZA 2 (.mov (.c (.int 1)))]) .ret) .skip)) (.seq (.seq (.reg [ZM 19 0,ZA 20 (.bin .geq 19 (.c (.int 1))),ZM 21 20,ZT 22 21 (.mov 0),ZT 23 21 (.bin .leq 22 (.c (.int 10))),ZA 24 (.pick 21 23 (.c (.bool false)))]) (.cond 24 (.seq (.reg [ZA 2 (.mov (.c (.int 2)))]) .ret) .skip)) (.seq (.reg [ZA 2 (.mov (.c (.int (-1))))]) .ret)))))⟩
theorem p155:prepF Tryz.prog 155=some c155:=by kernel_rfl
def c156:F:=⟨87, [(.tmp 4)],(.seq (.reg [ZA 2 (.box 0),ZA 3 (.box 1),ZA 4 ZF0]) (.seq (.reg [ZE 7 0 2,ZL 8 7,ZA 9 (.bin .eql 8 (.c (.int 2))),ZM 5 9]) (.seq (.reg [ZE 10 0 2,ZL 11 10,ZA 12 (.bin .eql 11 (.c (.int 3))),ZM 13 12,ZF 14 13 (.fadr 0 2),ZF 15 13 (.load false 1 14),ZF 16 13 (.bin .eql 15 (.c (.int 7))),ZA 17 (.pick 13 (.c (.bool true)) 16),ZM 18 17,ZF 19 18 (.fadr 0 2),ZF 20 18 (.load false 1 19),ZF 21 18 (.bin .eql 20 (.c (.int 8))),ZF 22 18 (.mov 21),ZT 23 22 (.fadr 2 2),ZT 24 22 (.load false 1 23),ZT 25 22 (.bin .neq 24 (.c (.int 1))),ZF 26 18 (.pick 22 25 (.c (.bool false))),ZA 27 (.pick 18 (.c (.bool true)) 26),ZM 6 27]) (.seq (.seq (.reg [ZM 28 5,ZA 29 (.un .not 28),ZM 30 29,ZT 31 30 (.fadr 1 2),ZT 32 30 (.load false 1 31),ZT 33 30 (.bin .neq 32 (.c (.int 0))),ZA 34 (.pick 30 33 (.c (.bool false)))]) (.cond 34 (.seq (.reg [ZA 4 ZF0]) .ret) .skip)) (.seq (.seq (.reg [ZM 35 5,ZM 36 35,ZT 37 36 (.fadr 1 2),ZT 38 36 (.load false 1 37),ZT 39 36 (.bin .lss 38 (.c (.int 0))),ZT 40 36 (.mov 39),ZF 41 40 (.fadr 1 2),ZF 42 40 (.load false 1 41),ZF 43 40 (.fadr 0 3),ZF 44 40 (.load false 1 43),ZF 45 40 (.lenl 44),ZF 46 40 (.bin .geq 42 45),ZT 47 36 (.pick 40 (.c (.bool true)) 46),ZA 48 (.pick 36 47 (.c (.bool false)))]) (.cond 48 (.seq (.reg [ZA 4 ZF0]) .ret) .skip)) (.seq (.seq (.reg [ZE 49 0 2,ZL 50 49,ZA 51 (.bin .neq 50 (.c (.int 8))),ZM 52 51,ZT 53 52 (.fadr 2 2),ZT 54 52 (.load false 1 53),ZT 55 52 (.bin .neq 54 (.c (.int 0))),ZA 56 (.pick 52 55 (.c (.bool false)))]) (.cond 56 (.seq (.reg [ZA 4 ZF0]) .ret) .skip)) (.seq (.seq (.reg [ZE 57 0 2,ZL 58 57,ZA 59 (.bin .eql 58 (.c (.int 8))),ZM 60 59,ZT 61 60 (.fadr 2 2),ZT 62 60 (.load false 1 61),ZT 63 60 (.bin .lss 62 (.c (.int 1))),ZT 64 60 (.mov 63),ZF 65 64 (.fadr 2 2),ZF 66 64 (.load false 1 65),ZF 67 64 (.bin .gtr 66 (.c (.int 4))),ZT 68 60 (.pick 64 (.c (.bool true)) 67),ZA 69 (.pick 60 68 (.c (.bool false)))]) (.cond 69 (.seq (.reg [ZA 4 ZF0]) .ret) .skip)) (.seq (.seq (.reg [ZM 70 6,ZA 71 (.un .not 70),ZM 72 71,ZT 73 72 (.fadr 3 2),ZT 74 72 (.load false 1 73),ZT 75 72 (.lenl 74),ZT 76 72 (.bin .neq 75 (.c (.int 0))),ZA 77 (.pick 72 76 (.c (.bool false)))]) (.cond 77 (.seq (.reg [ZA 4 ZF0]) .ret) .skip)) (.seq (.reg [ZE 78 0 2,ZL 79 78,ZA 80 (.bin .eql 79 (.c (.int 4))),ZM 81 80,ZF 82 81 (.fadr 4 2),ZF 83 81 (.load false 1 82),ZF 84 81 (.lenl 83),ZF 85 81 (.bin .eql 84 (.c (.int 0))),ZA 86 (.pick 81 (.c (.bool true)) 85),ZM 4 86]) .ret)))))))))⟩
theorem p156:prepF Tryz.prog 156=some c156:=by kernel_rfl
def c157:F:=⟨21, [(.tmp 6)],(.seq (.reg [ZA 6 (.mov (.c (.int 0)))]) (.seq (.seq (.reg [ZM 7 0,ZA 8 (.bin .eql 7 (.c (.int 6))),ZM 9 8,ZF 10 9 (.mov 0),ZF 11 9 (.bin .eql 10 (.c (.int 7))),ZA 12 (.pick 9 (.c (.bool true)) 11),ZM 13 12,ZF 14 13 (.mov 0),ZF 15 13 (.bin .eql 14 (.c (.int 8))),ZA 16 (.pick 13 (.c (.bool true)) 15)]) (.cond 16 (.seq (.reg [ZM 17 1,ZM 18 2,ZA 19 (.bin .add 17 18),ZM 6 19]) .ret) .skip)) (.seq (.reg [ZM 20 1,ZM 6 20]) .ret)))⟩
theorem p157:prepF Tryz.prog 157=some c157:=by kernel_rfl
def c84:F:=⟨28, [(.cell 2 true 7)],(.seq (.reg [ZA 1 (.box 0),ZA 2 (.alloc [(.int 0),(.int 0),(.int 0),(.e (.sl [])),(.e (.sl [])),(.int 0),(.int 0)])]) (.seq (.reg [ZA 3 (.alloc [(.int 0),(.int 0),(.int 0),(.e (.sl [])),(.e (.sl [])),(.int 0),(.int 0)])]) (.seq (.reg [ZE 4 0 1,ZL 5 4,ZE 6 0 3,ZN (.store false 1 6 5)]) (.seq (.reg [ZE 7 1 1,ZL 8 7,ZE 9 1 3,ZN (.store false 1 9 8)]) (.seq (.reg [ZE 10 2 1,ZL 11 10,ZE 12 2 3,ZN (.store false 1 12 11)]) (.seq (.reg [ZE 13 3 1,ZL 14 13,ZC 15 159 [14],ZE 16 3 3,ZN (.store false 1 16 15)]) (.seq (.reg [ZE 17 4 1,ZL 18 17,ZC 19 160 [18],ZE 20 4 3,ZN (.store false 1 20 19)]) (.seq (.reg [ZE 21 5 1,ZL 22 21,ZE 23 5 3,ZN (.store false 1 23 22)]) (.seq (.reg [ZE 24 6 1,ZL 25 24,ZE 26 6 3,ZN (.store false 1 26 25)]) (.seq (.reg [ZA 27 (.load true 7 3),ZN (.store true 7 2 27)]) .ret))))))))))⟩
theorem p84:prepF Tryz.prog 84=some c84:=by kernel_rfl
def c86:F:=⟨96, [(.tmp 2),(.tmp 3)],(.seq (.reg [ZA 1 (.box 0),ZA 2 (.mov (.c .zs)),ZA 3 ZF0]) (.seq (.seq (.reg [ZE 9 0 1,ZL 10 9,ZA 11 (.lenl 10),ZA 12 (.bin .lss 11 (.c (.int 1))),ZM 13 12,ZF 14 13 (.fadr 0 1),ZF 15 13 (.load false 1 14),ZF 16 13 (.lenl 15),ZF 17 13 (.bin .gtr 16 (.c (.int 2000))),ZA 18 (.pick 13 (.c (.bool true)) 17)]) (.cond 18 (.seq (.reg [ZA 2 (.mov (.c .zs)),ZA 3 ZF0]) .ret) .skip)) (.seq (.reg [ZE 19 0 1,ZL 20 19,ZA 21 (.lenl 20),ZA 22 (.mks [(.int 0)] 21),ZA 4 (.alloc [(.e (.sl []))]),ZN (.store false 1 4 22)]) (.seq (.seq (.reg [ZE 23 0 1,ZL 24 23,ZA 25 (.lenl 24),ZA 26 (.mov (.c (.int 0)))]) (.block 0 (.loop (.seq (.reg [ZA 27 (.bin .lss 26 25)]) (.seq (.cond 27 .skip (.exit 0)) (.seq (.block 1 (.seq (.reg [ZM 28 26,ZA 29 (.iadr none 7 24 26),ZA 30 (.load true 7 29),ZA 6 (.alloc [(.int 0),(.int 0),(.int 0),(.e (.sl [])),(.e (.sl [])),(.int 0),(.int 0)]),ZM 5 28,ZN (.store true 7 6 30)]) (.seq (.reg [ZM 31 5,ZA 7 (.alloc [(.int 0)]),ZN (.store false 1 7 31)]) (.seq (.reg [ZA 32 (.mkf (.func 162) [] [7,4]),ZM 8 32]) (.seq (.seq (.reg [ZE 33 0 6,ZL 34 33,ZA 35 (.bin .lss 34 (.c (.int 1))),ZM 36 35,ZF 37 36 (.fadr 0 6),ZF 38 36 (.load false 1 37),ZF 39 36 (.bin .gtr 38 (.c (.int 10))),ZA 40 (.pick 36 (.c (.bool true)) 39)]) (.cond 40 (.seq (.reg [ZA 2 (.mov (.c .zs)),ZA 3 ZF0]) .ret) .skip)) (.seq (.seq (.reg [ZE 41 0 6,ZL 42 41,ZC 43 116 [42],ZM 44 43,ZT 45 44 (.mov 8),ZT 46 44 (.fadr 6 6),ZT 47 44 (.load false 1 46),ZT 48 44 (.callv 45 [47]),ZT 49 44 (.un .not 48),ZA 50 (.pick 44 49 (.c (.bool false))),ZM 51 50,ZF 52 51 (.fadr 0 6),ZF 53 51 (.load false 1 52),ZF 54 51 (.call 116 [53]),ZF 55 51 (.un .not 54),ZF 56 51 (.mov 55),ZT 57 56 (.fadr 6 6),ZT 58 56 (.load false 1 57),ZT 59 56 (.bin .neq 58 (.c (.int 0))),ZF 60 51 (.pick 56 59 (.c (.bool false))),ZA 61 (.pick 51 (.c (.bool true)) 60)]) (.cond 61 (.seq (.reg [ZA 2 (.mov (.c .zs)),ZA 3 ZF0]) .ret) .skip)) (.seq (.seq (.reg [ZE 62 0 6,ZL 63 62,ZC 64 115 [63],ZM 65 64,ZT 66 65 (.mov 8),ZT 67 65 (.fadr 5 6),ZT 68 65 (.load false 1 67),ZT 69 65 (.callv 66 [68]),ZT 70 65 (.un .not 69),ZA 71 (.pick 65 70 (.c (.bool false))),ZM 72 71,ZF 73 72 (.fadr 0 6),ZF 74 72 (.load false 1 73),ZF 75 72 (.call 115 [74]),ZF 76 72 (.un .not 75),ZF 77 72 (.mov 76),ZT 78 77 (.fadr 5 6),ZT 79 77 (.load false 1 78),ZT 80 77 (.bin .neq 79 (.c (.int 0))),ZF 81 72 (.pick 77 80 (.c (.bool false))),ZA 82 (.pick 72 (.c (.bool true)) 81)]) (.cond 82 (.seq (.reg [ZA 2 (.mov (.c .zs)),ZA 3 ZF0]) .ret) .skip)) (.reg [ZL 83 4,ZM 84 5,ZL 85 7,ZA 86 (.iadr none 1 83 84),ZN (.store false 1 86 85)])))))))) (.reg [ZA 87 (.bin .add 26 (.c (.int 1))),ZM 26 87]))))))) (.seq (.dreg [⟨ZL 88 4, [], [4]⟩,⟨ZL 89 4, [0], [4]⟩,⟨ZL 90 4, [0,1], [4]⟩,⟨ZA 91 (.lenl 90), [0,1], [90]⟩,⟨ZA 92 (.bin .sub 91 (.c (.int 1))), [0,1], [91]⟩,⟨ZA 93 (.iadr none 1 89 92), [0], [89,92]⟩,⟨ZL 94 93, [0], [93]⟩,⟨ZA 95 (.bin .eql 94 (.c (.int 0))), [0], [94]⟩,⟨ZM 2 88, [1,2,3,4,5,6,7], [88]⟩,⟨ZM 3 95, [], [95]⟩]) .ret)))))⟩
theorem p86:prepF Tryz.prog 86=some c86:=by kernel_rfl
def c87:F:=⟨65, [(.tmp 6)],(.seq (.reg [ZA 3 (.box 0),ZA 6 (.mov (.c (.e (.v .nilIface))))]) (.seq (.reg [ZE 12 0 3,ZE 13 0 12,ZL 14 13,ZM 15 1,ZA 16 (.iadr none 7 14 15),ZA 17 (.load true 7 16),ZA 7 (.alloc [(.int 0),(.int 0),(.int 0),(.e (.sl [])),(.e (.sl [])),(.int 0),(.int 0)]),ZN (.store true 7 7 17)]) (.seq (.seq (.reg [ZA 18 (.load true 7 7),ZC 19 163 [18],ZA 20 (.un .not 19)]) (.cond 20 (.seq (.reg [ZA 6 (.mov (.c (.e (.v .nilIface))))]) .ret) .skip)) (.seq (.reg [ZA 8 (.mov (.c (.e (.v .nilIface)))),ZA 9 (.mov (.c (.e (.v .nilIface))))]) (.seq (.seq (.reg [ZE 21 0 7,ZL 22 21,ZC 23 115 [22]]) (.cond 23 (.seq (.reg [ZA 24 (.load true 3 3),ZE 25 5 7,ZL 26 25,ZM 27 2,ZC 28 87 [24,26,27],ZM 8 28]) (.seq (.reg [ZM 29 8,ZA 30 (.isnilI false 29)]) (.cond 30 (.seq (.reg [ZA 6 (.mov (.c (.e (.v .nilIface))))]) .ret) .skip))) .skip)) (.seq (.seq (.reg [ZE 31 0 7,ZL 32 31,ZC 33 116 [32]]) (.cond 33 (.seq (.reg [ZM 34 2,ZM 10 34]) (.seq (.seq (.reg [ZE 35 0 7,ZL 36 35,ZC 37 117 [36]]) (.cond 37 (.reg [ZM 38 10,ZM 39 8,ZA 40 (.invk "loop.example/s0035/impl.width" 39 []),ZA 41 (.bin .add 38 40),ZM 10 41]) .skip)) (.seq (.reg [ZA 42 (.load true 3 3),ZE 43 6 7,ZL 44 43,ZM 45 10,ZC 46 87 [42,44,45],ZM 9 46]) (.seq (.reg [ZM 47 9,ZA 48 (.isnilI false 47)]) (.cond 48 (.seq (.reg [ZA 6 (.mov (.c (.e (.v .nilIface))))]) .ret) .skip))))) .skip)) (.seq (.reg [ZA 49 (.load true 3 3),ZA 50 (.load true 7 7),ZM 51 2,ZM 52 8,ZM 53 9,ZC 54 164 [49,50,51,52,53],ZM 11 54]) (.seq (.seq (.reg [ZM 55 11,ZA 56 (.isnilI false 55),ZM 57 56,ZF 58 57 (.mov 11),ZF 59 57 (.invk "loop.example/s0035/impl.width" 58 []),ZF 60 57 (.mov 2),ZF 61 57 (.bin .add 59 60),ZF 62 57 (.bin .gtr 61 (.c (.int 200))),ZA 63 (.pick 57 (.c (.bool true)) 62)]) (.cond 63 (.seq (.reg [ZA 6 (.mov (.c (.e (.v .nilIface))))]) .ret) .skip)) (.seq (.reg [ZM 64 11,ZM 6 64]) .ret)))))))))⟩
theorem p87:prepF Tryz.prog 87=some c87:=by kernel_rfl
def c93:F:=⟨42, [(.tmp 4)],(.seq (.reg [ZA 2 (.box 0),ZA 3 (.box 1),ZA 4 ZF0]) (.seq (.seq (.reg [ZE 5 0 2,ZL 6 5,ZE 7 0 3,ZL 8 7,ZA 9 (.bin .neq 6 8)]) (.cond 9 (.seq (.reg [ZA 4 ZF0]) .ret) .skip)) (.seq (.seq (.reg [ZE 10 1 2,ZL 11 10,ZE 12 1 3,ZL 13 12,ZA 14 (.bin .neq 11 13)]) (.cond 14 (.seq (.reg [ZA 4 ZF0]) .ret) .skip)) (.seq (.seq (.reg [ZE 15 2 2,ZL 16 15,ZE 17 2 3,ZL 18 17,ZA 19 (.bin .neq 16 18)]) (.cond 19 (.seq (.reg [ZA 4 ZF0]) .ret) .skip)) (.seq (.seq (.reg [ZE 20 3 2,ZL 21 20,ZE 22 3 3,ZL 23 22,ZC 24 166 [21,23],ZA 25 (.un .not 24)]) (.cond 25 (.seq (.reg [ZA 4 ZF0]) .ret) .skip)) (.seq (.seq (.reg [ZE 26 4 2,ZL 27 26,ZE 28 4 3,ZL 29 28,ZC 30 167 [27,29],ZA 31 (.un .not 30)]) (.cond 31 (.seq (.reg [ZA 4 ZF0]) .ret) .skip)) (.seq (.seq (.reg [ZE 32 5 2,ZL 33 32,ZE 34 5 3,ZL 35 34,ZA 36 (.bin .neq 33 35)]) (.cond 36 (.seq (.reg [ZA 4 ZF0]) .ret) .skip)) (.seq (.seq (.reg [ZE 37 6 2,ZL 38 37,ZE 39 6 3,ZL 40 39,ZA 41 (.bin .neq 38 40)]) (.cond 41 (.seq (.reg [ZA 4 ZF0]) .ret) .skip)) (.seq (.reg [ZA 4 ZT0]) .ret)))))))))⟩
theorem p93:prepF Tryz.prog 93=some c93:=by kernel_rfl
def c162:F:=⟨17, [(.tmp 4)],(.seq (.reg [ZA 4 ZF0]) (.seq (.seq (.reg [ZL 5 1,ZA 6 (.bin .lss 5 (.c (.int 1))),ZM 7 6,ZF 8 7 (.mov 0),ZF 9 7 (.load false 1 1),ZF 10 7 (.bin .sub 9 (.c (.int 1))),ZF 11 7 (.bin .neq 8 10),ZA 12 (.pick 7 (.c (.bool true)) 11)]) (.cond 12 (.seq (.reg [ZA 4 ZF0]) .ret) .skip)) (.seq (.reg [ZL 13 2,ZM 14 0,ZA 15 (.iadr none 1 13 14),ZL 16 15,ZN (.store false 1 1 16)]) (.seq (.reg [ZA 4 ZT0]) .ret))))⟩
theorem p162:prepF Tryz.prog 162=some c162:=by kernel_rfl
def c163:F:=⟨74, [(.tmp 2)],(.seq (.reg [ZA 1 (.box 0),ZA 2 ZF0]) (.seq (.reg [ZE 4 0 1,ZL 5 4,ZA 6 (.bin .eql 5 (.c (.int 3))),ZM 7 6,ZF 8 7 (.fadr 0 1),ZF 9 7 (.load false 1 8),ZF 10 7 (.bin .eql 9 (.c (.int 7))),ZA 11 (.pick 7 (.c (.bool true)) 10),ZM 12 11,ZF 13 12 (.fadr 0 1),ZF 14 12 (.load false 1 13),ZF 15 12 (.bin .eql 14 (.c (.int 8))),ZF 16 12 (.mov 15),ZT 17 16 (.fadr 2 1),ZT 18 16 (.load false 1 17),ZT 19 16 (.bin .gtr 18 (.c (.int 1))),ZF 20 12 (.pick 16 19 (.c (.bool false))),ZA 21 (.pick 12 (.c (.bool true)) 20),ZM 3 21]) (.seq (.seq (.reg [ZE 22 0 1,ZL 23 22,ZA 24 (.bin .neq 23 (.c (.int 2))),ZM 25 24,ZT 26 25 (.fadr 1 1),ZT 27 25 (.load false 1 26),ZT 28 25 (.bin .neq 27 (.c (.int 0))),ZA 29 (.pick 25 28 (.c (.bool false))),ZM 30 29,ZF 31 30 (.fadr 0 1),ZF 32 30 (.load false 1 31),ZF 33 30 (.bin .neq 32 (.c (.int 8))),ZF 34 30 (.mov 33),ZT 35 34 (.fadr 2 1),ZT 36 34 (.load false 1 35),ZT 37 34 (.bin .neq 36 (.c (.int 0))),ZF 38 30 (.pick 34 37 (.c (.bool false))),ZA 39 (.pick 30 (.c (.bool true)) 38),ZM 40 39,ZF 41 40 (.mov 3),ZF 42 40 (.un .not 41),ZF 43 40 (.mov 42),ZT 44 43 (.fadr 3 1),ZT 45 43 (.load false 1 44),ZT 46 43 (.lenl 45),ZT 47 43 (.bin .gtr 46 (.c (.int 0))),ZF 48 40 (.pick 43 47 (.c (.bool false))),ZA 49 (.pick 40 (.c (.bool true)) 48),ZM 50 49,ZF 51 50 (.fadr 0 1),ZF 52 50 (.load false 1 51),ZF 53 50 (.bin .neq 52 (.c (.int 4))),ZF 54 50 (.mov 53),ZT 55 54 (.fadr 4 1),ZT 56 54 (.load false 1 55),ZT 57 54 (.lenl 56),ZT 58 54 (.bin .gtr 57 (.c (.int 0))),ZF 59 50 (.pick 54 58 (.c (.bool false))),ZA 60 (.pick 50 (.c (.bool true)) 59)]) (.cond 60 (.seq (.reg [ZA 2 ZF0]) .ret) .skip)) (.seq (.reg [ZE 61 0 1,ZL 62 61,ZA 63 (.bin .neq 62 (.c (.int 8))),ZM 64 63,ZF 65 64 (.fadr 2 1),ZF 66 64 (.load false 1 65),ZF 67 64 (.bin .geq 66 (.c (.int 1))),ZF 68 64 (.mov 67),ZT 69 68 (.fadr 2 1),ZT 70 68 (.load false 1 69),ZT 71 68 (.bin .leq 70 (.c (.int 4))),ZF 72 64 (.pick 68 71 (.c (.bool false))),ZA 73 (.pick 64 (.c (.bool true)) 72),ZM 2 73]) .ret))))⟩
theorem p163:prepF Tryz.prog 163=some c163:=by kernel_rfl
def c164:F:=⟨135, [(.tmp 10)],(.seq (.reg [ZA 5 (.box 0),ZA 6 (.box 1),ZA 7 (.box 2),ZA 8 (.box 3),ZA 10 (.mov (.c (.e (.v .nilIface))))]) (.seq (.seq (.reg [ZE 11 0 6,ZL 12 11]) (.block 0 (.seq (.reg [ZA 14 (.bin .eql 12 (.c (.int 1))),ZM 13 14]) (.cond 13 (.seq (.reg [ZA 15 (.build [] []),ZA 16 (.mki 255 15),ZM 10 16]) .ret) (.seq (.reg [ZA 18 (.bin .eql 12 (.c (.int 2))),ZM 17 18]) (.cond 17 (.seq (.seq (.reg [ZE 19 1 6,ZL 20 19,ZA 21 (.bin .lss 20 (.c (.int 0))),ZM 22 21,ZF 23 22 (.fadr 1 6),ZF 24 22 (.load false 1 23),ZF 25 22 (.fadr 1 5),ZF 26 22 (.fadr 0 25),ZF 27 22 (.load false 1 26),ZF 28 22 (.lenl 27),ZF 29 22 (.bin .geq 24 28),ZA 30 (.pick 22 (.c (.bool true)) 29)]) (.cond 30 (.seq (.reg [ZA 10 (.mov (.c (.e (.v .nilIface))))]) .ret) .skip)) (.seq (.reg [ZE 31 1 5,ZE 32 0 31,ZL 33 32,ZE 34 1 6,ZL 35 34,ZA 36 (.iadr none 3 33 35),ZA 37 (.load true 3 36),ZA 38 (.build [(.str []),(.int 0),.zs] [(0,(3,37))]),ZA 39 (.mki 257 38),ZM 10 39]) .ret)) (.seq (.reg [ZA 41 (.bin .eql 12 (.c (.int 3))),ZM 40 41]) (.cond 40 (.seq (.dreg [⟨ZE 42 3 6, [], [6]⟩,⟨ZL 43 42, [], [42]⟩,⟨ZL 44 7, [0,1], [7]⟩,⟨ZL 45 8, [0,1,2], [8]⟩,⟨ZA 46 (.invk "loop.example/s0035/impl.width" 45 []), [0,1,2], [45]⟩,⟨ZA 47 (.bin .add 44 46), [0,1], [44,46]⟩,⟨ZC 48 216 [43,47], [], [43,47]⟩]) (.cond 48 (.seq (.reg [ZE 49 3 6,ZL 50 49,ZL 51 8,ZA 52 (.build [.zs,(.e (.v .nilIface))] [(0,(1,50)),(1,(1,51))]),ZA 53 (.mki 259 52),ZM 10 53]) .ret) .skip)) (.seq (.reg [ZA 55 (.bin .eql 12 (.c (.int 4))),ZM 54 55]) (.cond 54 (.seq (.reg [ZE 56 4 6,ZL 57 56,ZA 58 (.mkf (.func 218) [] [7,8]),ZC 59 217 [57,58],ZA 60 (.un .not 59)]) (.cond 60 (.seq (.reg [ZE 61 4 6,ZL 62 61,ZL 63 8,ZA 64 (.build [.zs,(.e (.v .nilIface))] [(0,(1,62)),(1,(1,63))]),ZA 65 (.mki 263 64),ZM 10 65]) .ret) .skip)) (.seq (.seq (.reg [ZA 67 (.bin .eql 12 (.c (.int 5))),ZM 66 67]) (.cond 66 .skip (.reg [ZA 68 (.bin .eql 12 (.c (.int 6))),ZM 66 68]))) (.cond 66 (.seq (.reg [ZL 69 8,ZM 70 4,ZE 71 0 6,ZL 72 71,ZA 73 (.bin .eql 72 (.c (.int 6))),ZA 74 (.build [(.e (.v .nilIface)),(.e (.v .nilIface)),(.bool false)] [(0,(1,69)),(1,(1,70)),(2,(1,73))]),ZA 75 (.mki 265 74),ZM 10 75]) .ret) (.seq (.reg [ZA 77 (.bin .eql 12 (.c (.int 7))),ZM 76 77]) (.cond 76 (.seq (.dreg [⟨ZE 78 3 6, [], [6]⟩,⟨ZL 79 78, [], [78]⟩,⟨ZL 80 7, [0,1], [7]⟩,⟨ZL 81 8, [0,1,2], [8]⟩,⟨ZA 82 (.invk "loop.example/s0035/impl.width" 81 []), [0,1,2], [81]⟩,⟨ZA 83 (.bin .add 80 82), [0,1], [80,82]⟩,⟨ZM 84 4, [0,1,2,3,4,5], [4]⟩,⟨ZA 85 (.invk "loop.example/s0035/impl.width" 84 []), [0,1,2,5], [84]⟩,⟨ZA 86 (.bin .add 83 85), [0,1], [83,85]⟩,⟨ZC 87 216 [79,86], [], [79,86]⟩]) (.cond 87 (.seq (.reg [ZE 88 3 6,ZL 89 88,ZL 90 8,ZM 91 4,ZA 92 (.build [.zs,(.e (.v .nilIface)),(.e (.v .nilIface))] [(0,(1,89)),(1,(1,90)),(2,(1,91))]),ZA 93 (.mki 267 92),ZM 10 93]) .ret) .skip)) (.seq (.reg [ZA 95 (.bin .eql 12 (.c (.int 8))),ZM 94 95]) (.cond 94 (.seq (.dreg [⟨ZE 96 2 6, [], [6]⟩,⟨ZL 97 96, [], [96]⟩,⟨ZA 98 (.bin .eql 97 (.c (.int 1))), [], [97]⟩,⟨ZM 99 98, [], [98]⟩,⟨ZF 100 99 (.fadr 3 6), [], [6,99]⟩,⟨ZF 101 99 (.load false 1 100), [], [100,99]⟩,⟨ZF 102 99 (.load false 1 7), [4,5], [7,99]⟩,⟨ZF 103 99 (.load false 1 8), [4,5,6], [8,99]⟩,⟨ZF 104 99 (.invk "loop.example/s0035/impl.width" 103 []), [4,5,6], [103,99]⟩,⟨ZF 105 99 (.bin .add 102 104), [4,5], [102,104,99]⟩,⟨ZF 106 99 (.mov 4), [4,5,6,7,8,9], [4,99]⟩,⟨ZF 107 99 (.invk "loop.example/s0035/impl.width" 106 []), [4,5,6,9], [106,99]⟩,⟨ZF 108 99 (.bin .add 105 107), [4,5], [105,107,99]⟩,⟨ZF 109 99 (.call 216 [101,108]), [], [101,108,99]⟩,⟨ZA 110 (.pick 99 (.c (.bool true)) 109), [], [99,109]⟩]) (.cond 110 (.seq (.reg [ZE 111 2 6,ZL 112 111,ZE 113 3 6,ZL 114 113,ZL 115 8,ZM 116 4,ZA 117 (.build [(.int 0),.zs,(.e (.v .nilIface)),(.e (.v .nilIface))] [(0,(1,112)),(1,(1,114)),(2,(1,115)),(3,(1,116))]),ZA 118 (.mki 269 117),ZM 10 118]) .ret) .skip)) (.seq (.reg [ZA 120 (.bin .eql 12 (.c (.int 9))),ZM 119 120]) (.cond 119 (.seq (.reg [ZL 121 8,ZA 122 (.build [(.e (.v .nilIface))] [(0,(1,121))]),ZA 123 (.mki 271 122),ZM 10 123]) .ret) (.seq (.reg [ZA 125 (.bin .eql 12 (.c (.int 10))),ZM 124 125]) (.cond 124 (.seq (.reg [ZL 126 8,ZA 127 (.invk "loop.example/s0035/impl.width" 126 []),ZM 128 4,ZA 129 (.invk "loop.example/s0035/impl.width" 128 []),ZA 130 (.bin .eql 127 129)]) (.cond 130 (.seq (.reg [ZL 131 8,ZM 132 4,ZA 133 (.build [(.e (.v .nilIface)),(.e (.v .nilIface))] [(0,(1,131)),(1,(1,132))]),ZA 134 (.mki 273 133),ZM 10 134]) .ret) .skip)) .skip)))))))))))))))))))) (.seq (.reg [ZA 10 (.mov (.c (.e (.v .nilIface))))]) .ret)))⟩
theorem p164:prepF Tryz.prog 164=some c164:=by kernel_rfl
def c218:F:=⟨12, [(.tmp 4)],(.seq (.reg [ZA 4 ZF0]) (.seq (.dreg [⟨ZM 5 0, [], [0]⟩,⟨ZL 6 1, [0], [1]⟩,⟨ZL 7 2, [0,1], [2]⟩,⟨ZA 8 (.invk "loop.example/s0035/impl.width" 7 []), [0,1], [7]⟩,⟨ZA 9 (.bin .add 6 8), [0], [6,8]⟩,⟨ZC 10 216 [5,9], [], [5,9]⟩,⟨ZA 11 (.un .not 10), [], [10]⟩,⟨ZM 4 11, [], [11]⟩]) .ret))⟩
theorem p218:prepF Tryz.prog 218=some c218:=by kernel_rfl
def c258:F:=⟨3, [(.tmp 2)],(.seq (.reg [ZA 1 (.box 0),ZA 2 (.mov (.c (.int 0)))]) (.seq (.reg [ZA 2 (.mov (.c (.int 0)))]) .ret))⟩
theorem p258:prepF Tryz.prog 258=some c258:=by kernel_rfl
def c260:F:=⟨6, [(.tmp 2)],(.seq (.reg [ZA 1 (.box 0),ZA 2 (.mov (.c (.int 0)))]) (.seq (.reg [ZE 3 0 1,ZE 4 1 3,ZL 5 4,ZM 2 5]) .ret))⟩
theorem p260:prepF Tryz.prog 260=some c260:=by kernel_rfl
def c262:F:=⟨6, [(.tmp 2)],(.seq (.reg [ZA 1 (.box 0),ZA 2 (.mov (.c (.int 0)))]) (.seq (.reg [ZE 3 1 1,ZL 4 3,ZA 5 (.invk "loop.example/s0035/impl.width" 4 []),ZM 2 5]) .ret))⟩
theorem p262:prepF Tryz.prog 262=some c262:=by kernel_rfl
def c275:F:=⟨6, [(.tmp 2)],(.seq (.reg [ZA 1 (.box 0),ZA 2 (.mov (.c (.int 0)))]) (.seq (.reg [ZE 3 0 1,ZL 4 3,ZA 5 (.lenl 4),ZM 2 5]) .ret))⟩
theorem p275:prepF Tryz.prog 275=some c275:=by kernel_rfl
def c278:F:=⟨10, [(.tmp 2)],(.seq (.reg [ZA 1 (.box 0),ZA 2 (.mov (.c (.int 0)))]) (.seq (.dreg [⟨ZE 3 0 1, [], [1]⟩,⟨ZL 4 3, [], [3]⟩,⟨ZA 5 (.invk "loop.example/s0035/impl.width" 4 []), [], [4]⟩,⟨ZE 6 1 1, [0,1,2], [1]⟩,⟨ZL 7 6, [0,1,2], [6]⟩,⟨ZA 8 (.invk "loop.example/s0035/impl.width" 7 []), [], [7]⟩,⟨ZA 9 (.bin .add 5 8), [], [5,8]⟩,⟨ZM 2 9, [], [9]⟩]) .ret))⟩
theorem p278:prepF Tryz.prog 278=some c278:=by kernel_rfl
def c282:F:=⟨7, [(.tmp 2)],(.seq (.reg [ZA 1 (.box 0),ZA 2 (.mov (.c (.int 0)))]) (.seq (.reg [ZE 3 1 1,ZL 4 3,ZA 5 (.invk "loop.example/s0035/impl.width" 4 []),ZA 6 (.bin .add 5 (.c (.int 1))),ZM 2 6]) .ret))⟩
theorem p282:prepF Tryz.prog 282=some c282:=by kernel_rfl
def c287:F:=⟨7, [(.tmp 2)],(.seq (.reg [ZA 1 (.box 0),ZA 2 (.mov (.c (.int 0)))]) (.seq (.reg [ZE 3 2 1,ZL 4 3,ZA 5 (.invk "loop.example/s0035/impl.width" 4 []),ZA 6 (.bin .add 5 (.c (.int 1))),ZM 2 6]) .ret))⟩
theorem p287:prepF Tryz.prog 287=some c287:=by kernel_rfl
def c294:F:=⟨6, [(.tmp 2)],(.seq (.reg [ZA 1 (.box 0),ZA 2 (.mov (.c (.int 0)))]) (.seq (.reg [ZE 3 0 1,ZL 4 3,ZA 5 (.invk "loop.example/s0035/impl.width" 4 []),ZM 2 5]) .ret))⟩
theorem p294:prepF Tryz.prog 294=some c294:=by kernel_rfl
def c315:F:=⟨6, [(.tmp 2)],(.seq (.reg [ZA 1 (.box 0),ZA 2 (.mov (.c (.int 0)))]) (.seq (.reg [ZE 3 0 1,ZL 4 3,ZA 5 (.invk "loop.example/s0035/impl.width" 4 []),ZM 2 5]) .ret))⟩
theorem p315:prepF Tryz.prog 315=some c315:=by kernel_rfl
end Go.Proofs.YtfplalbognalkaaGreat.Ab
/- Plans: the widths of operators. -/
namespace Go.Proofs.YtfplalbognalkaaGreat.Ab
open Go
theorem free_es (es:List E):frees (es.map .e)=true:=by
 induction es with
 | nil=>rfl
 | cons e r ih=>show (true&&frees (r.map .e))=true;rw [ih];rfl
theorem Ar.Ok.invk {A:Ar} (hA:A.Ok) {P:Program} {T:TypeId} {m:String} {fn:FuncId} {es:List E} {d:D} {k:FuncId->D->Prop} (hm:MRow P T m fn) (hd:d= .agg (es.map .e)) (h:k fn d):A.inv P T m es k:=
 hA.inv _ _ _ _ _ ⟨fn,hm,fun d' hd'=>by rw [hd',<-hd];exact h⟩
structure Wid (T:TypeId) (cs:List E) (w:Int):Prop where
 ex: ∃fn d,d= .agg (cs.map .e)/\frees [d]=true/\MRow Tryz.prog T "loop.example/s0035/impl.width" fn/\Plain Tryz.prog fn [d] (.int w)
theorem Wid.mk' {T:TypeId} {cs:List E} {w:Int} {fn:FuncId} (hm:MRow Tryz.prog T "loop.example/s0035/impl.width" fn) (h:Plain Tryz.prog fn [.agg (cs.map .e)] (.int w)):Wid T cs w:=
 ⟨fn,_,rfl,by show (frees (cs.map .e)&&true)=true;rw [free_es];rfl,hm,h⟩
theorem wid_unit:Wid 255 [] 0:=by
 refine Wid.mk' (fn:=258) ⟨by kernel_rfl,_,Tryz.func258,by decide,rfl⟩ (okOf mixed p258 fun A P hA hP=>?_)
 cbv
 repeat' first | exact W1 | refine WA ?_ ?_ | with_reducible intro hcc | refine WS ?_ | refine W6 ?_ | refine WL ?_ | fail
 all_goals try simp only [hA.sm,n_cast] at *
 all_goals first | omega | rfl | trivial | (rw [hzx,hz];done) | (subst_vars;rfl)
theorem wid_scan (s:List UInt8) (c:Int) (x:List (List E)):Wid 257 [E.str s,E.int c,E.sl x] c:=by
 refine Wid.mk' (fn:=260) ⟨by kernel_rfl,_,Tryz.func260,by decide,rfl⟩ (okOf mixed p260 fun A P hA hP=>?_)
 cbv
 repeat' first | exact W1 | refine WA ?_ ?_ | with_reducible intro hcc | refine WS ?_ | refine W6 ?_ | refine WL ?_ | fail
 all_goals try simp only [hA.sm,n_cast] at *
 all_goals first | omega | rfl | trivial | (rw [hzx,hz];done) | (subst_vars;rfl)
theorem wid_filter (x:List (List E)) (T1:TypeId) (c1:List E) (w1:Int) (h1:Wid T1 c1 w1) (hw1:0<=w1/\w1<=4194304):Wid 259 [E.sl x,E.ia T1 c1] w1:=by
 refine Wid.mk' (fn:=262) ⟨by kernel_rfl,_,Tryz.func262,by decide,rfl⟩ (okOf mixed p262 fun A P hA hP=>?_)
 obtain ⟨⟨fn1,d1,hd1,hfr1,hm1,hp1⟩⟩:=h1
 have hm1:MRow P T1 "loop.example/s0035/impl.width" fn1:=hP▸hm1
 cbv
 repeat' first | exact W1 | refine WA ?_ ?_ | with_reducible intro hcc | refine WS ?_ | ((with_reducible refine hA.invk hm1 hd1 ?_);cbv) | ((with_reducible show A.call _ _ _ _ _ fn1 _ _ _);refine callK_eq hA hP hfr1 rfl ?_ (Wks.refl _) (fun _ _=>hp1);cbv) | refine W6 ?_ | refine WL ?_ | fail
 all_goals try simp only [hA.sm,n_cast] at *
 all_goals first | omega | rfl | trivial | (rw [hzx,hz];done) | (subst_vars;rfl)
theorem wid_project (x:List (List E)) (e:E) (hxl:x.length<=1048576) (zx:Int) (hzx:zx=x.length):Wid 263 [E.sl x,e] zx:=by
 refine Wid.mk' (fn:=275) ⟨by kernel_rfl,_,Tryz.func275,by decide,rfl⟩ (okOf mixed p275 fun A P hA hP=>?_)
 cbv
 repeat' first | exact W1 | refine WA ?_ ?_ | with_reducible intro hcc | refine WS ?_ | refine W6 ?_ | ((with_reducible first | refine hA.Len fun z hz hb=>?_);cbv) | refine WL ?_ | fail
 all_goals try simp only [hA.sm,n_cast] at *
 all_goals first | omega | rfl | trivial | (rw [hzx,hz];done) | (subst_vars;rfl)
theorem wid_cross (b:Bool) (T1:TypeId) (c1:List E) (w1:Int) (h1:Wid T1 c1 w1) (hw1:0<=w1/\w1<=4194304) (T2:TypeId) (c2:List E) (w2:Int) (h2:Wid T2 c2 w2) (hw2:0<=w2/\w2<=4194304):Wid 265 [E.ia T1 c1,E.ia T2 c2,E.bool b] (w1+w2):=by
 refine Wid.mk' (fn:=278) ⟨by kernel_rfl,_,Tryz.func278,by decide,rfl⟩ (okOf mixed p278 fun A P hA hP=>?_)
 obtain ⟨⟨fn1,d1,hd1,hfr1,hm1,hp1⟩⟩:=h1
 have hm1:MRow P T1 "loop.example/s0035/impl.width" fn1:=hP▸hm1
 obtain ⟨⟨fn2,d2,hd2,hfr2,hm2,hp2⟩⟩:=h2
 have hm2:MRow P T2 "loop.example/s0035/impl.width" fn2:=hP▸hm2
 cbv
 repeat' first | exact W1 | refine WA ?_ ?_ | with_reducible intro hcc | refine WS ?_ | ((with_reducible refine hA.invk hm1 hd1 ?_);cbv) | ((with_reducible show A.call _ _ _ _ _ fn1 _ _ _);refine callK_eq hA hP hfr1 rfl ?_ (Wks.refl _) (fun _ _=>hp1);cbv) | ((with_reducible refine hA.invk hm2 hd2 ?_);cbv) | ((with_reducible show A.call _ _ _ _ _ fn2 _ _ _);refine callK_eq hA hP hfr2 rfl ?_ (Wks.refl _) (fun _ _=>hp2);cbv) | refine W6 ?_ | ((with_reducible first | refine hA.Sapp ?_ fun sl hsl=>?_);rotate_left;cbv) | refine WL ?_ | fail
 all_goals try simp only [hA.sm,n_cast] at *
 all_goals first | omega | rfl | trivial | (rw [hzx,hz];done) | (subst_vars;rfl)
theorem wid_mark (x:List (List E)) (e:E) (T1:TypeId) (c1:List E) (w1:Int) (h1:Wid T1 c1 w1) (hw1:0<=w1/\w1<=4194304):Wid 267 [E.sl x,E.ia T1 c1,e] (w1+1):=by
 refine Wid.mk' (fn:=282) ⟨by kernel_rfl,_,Tryz.func282,by decide,rfl⟩ (okOf mixed p282 fun A P hA hP=>?_)
 obtain ⟨⟨fn1,d1,hd1,hfr1,hm1,hp1⟩⟩:=h1
 have hm1:MRow P T1 "loop.example/s0035/impl.width" fn1:=hP▸hm1
 cbv
 repeat' first | exact W1 | refine WA ?_ ?_ | with_reducible intro hcc | refine WS ?_ | ((with_reducible refine hA.invk hm1 hd1 ?_);cbv) | ((with_reducible show A.call _ _ _ _ _ fn1 _ _ _);refine callK_eq hA hP hfr1 rfl ?_ (Wks.refl _) (fun _ _=>hp1);cbv) | refine W6 ?_ | ((with_reducible first | refine hA.Sapp ?_ fun sl hsl=>?_);rotate_left;cbv) | refine WL ?_ | fail
 all_goals try simp only [hA.sm,n_cast] at *
 all_goals first | omega | rfl | trivial | (rw [hzx,hz];done) | (subst_vars;rfl)
theorem wid_agg (m:Int) (x:List (List E)) (e:E) (T1:TypeId) (c1:List E) (w1:Int) (h1:Wid T1 c1 w1) (hw1:0<=w1/\w1<=4194304):Wid 269 [E.int m,E.sl x,E.ia T1 c1,e] (w1+1):=by
 refine Wid.mk' (fn:=287) ⟨by kernel_rfl,_,Tryz.func287,by decide,rfl⟩ (okOf mixed p287 fun A P hA hP=>?_)
 obtain ⟨⟨fn1,d1,hd1,hfr1,hm1,hp1⟩⟩:=h1
 have hm1:MRow P T1 "loop.example/s0035/impl.width" fn1:=hP▸hm1
 cbv
 repeat' first | exact W1 | refine WA ?_ ?_ | with_reducible intro hcc | refine WS ?_ | ((with_reducible refine hA.invk hm1 hd1 ?_);cbv) | ((with_reducible show A.call _ _ _ _ _ fn1 _ _ _);refine callK_eq hA hP hfr1 rfl ?_ (Wks.refl _) (fun _ _=>hp1);cbv) | refine W6 ?_ | ((with_reducible first | refine hA.Sapp ?_ fun sl hsl=>?_);rotate_left;cbv) | refine WL ?_ | fail
 all_goals try simp only [hA.sm,n_cast] at *
 all_goals first | omega | rfl | trivial | (rw [hzx,hz];done) | (subst_vars;rfl)
theorem wid_distinct (T1:TypeId) (c1:List E) (w1:Int) (h1:Wid T1 c1 w1) (hw1:0<=w1/\w1<=4194304):Wid 271 [E.ia T1 c1] w1:=by
 refine Wid.mk' (fn:=294) ⟨by kernel_rfl,_,Tryz.func294,by decide,rfl⟩ (okOf mixed p294 fun A P hA hP=>?_)
 obtain ⟨⟨fn1,d1,hd1,hfr1,hm1,hp1⟩⟩:=h1
 have hm1:MRow P T1 "loop.example/s0035/impl.width" fn1:=hP▸hm1
 cbv
 repeat' first | exact W1 | refine WA ?_ ?_ | with_reducible intro hcc | refine WS ?_ | ((with_reducible refine hA.invk hm1 hd1 ?_);cbv) | ((with_reducible show A.call _ _ _ _ _ fn1 _ _ _);refine callK_eq hA hP hfr1 rfl ?_ (Wks.refl _) (fun _ _=>hp1);cbv) | refine W6 ?_ | refine WL ?_ | fail
 all_goals try simp only [hA.sm,n_cast] at *
 all_goals first | omega | rfl | trivial | (rw [hzx,hz];done) | (subst_vars;rfl)
theorem wid_union (e:E) (T1:TypeId) (c1:List E) (w1:Int) (h1:Wid T1 c1 w1) (hw1:0<=w1/\w1<=4194304):Wid 273 [E.ia T1 c1,e] w1:=by
 refine Wid.mk' (fn:=315) ⟨by kernel_rfl,_,Tryz.func315,by decide,rfl⟩ (okOf mixed p315 fun A P hA hP=>?_)
 obtain ⟨⟨fn1,d1,hd1,hfr1,hm1,hp1⟩⟩:=h1
 have hm1:MRow P T1 "loop.example/s0035/impl.width" fn1:=hP▸hm1
 cbv
 repeat' first | exact W1 | refine WA ?_ ?_ | with_reducible intro hcc | refine WS ?_ | ((with_reducible refine hA.invk hm1 hd1 ?_);cbv) | ((with_reducible show A.call _ _ _ _ _ fn1 _ _ _);refine callK_eq hA hP hfr1 rfl ?_ (Wks.refl _) (fun _ _=>hp1);cbv) | refine W6 ?_ | refine WL ?_ | fail
 all_goals try simp only [hA.sm,n_cast] at *
 all_goals first | omega | rfl | trivial | (rw [hzx,hz];done) | (subst_vars;rfl)
theorem wid_ok: ∀(o:Ot),o.sm->0<=o.w/\o.w<=4194304->Wid o.T o.cs o.w
 | .unit,_,_=>wid_unit
 | .scan t,_,_=>wid_scan _ _ _
 | .filter ex l,h,hw=>by
  have:=wid_filter (ex.map orow) l.T l.cs l.w (wid_ok l h hw) hw
  rw [<-Ot.E_eq] at this;exact this
 | .project exs l,h,hw=>by
  have:=wid_project (exs.map orr) l.E (by rw [List.length_map];exact h.1) exs.length (by rw [List.length_map])
  exact this
 | .cross l r dep,h,hw=>by
  obtain ⟨⟨a,b,c,d⟩,h1,h2⟩:=h
  have:=wid_cross dep l.T l.cs l.w (wid_ok l h1 (by omega)) (by omega) r.T r.cs r.w (wid_ok r h2 (by omega)) (by omega)
  rw [<-Ot.E_eq,<-Ot.E_eq] at this;exact this
 | .mark ex l r,h,hw=>by
  obtain ⟨a,h1,h2⟩:=h
  have:=wid_mark (ex.map orow) r.E l.T l.cs l.w (wid_ok l h1 (by omega)) (by omega)
  rw [<-Ot.E_eq] at this;exact this
 | .agg m ex l r,h,hw=>by
  obtain ⟨a,h1,h2⟩:=h
  have:=wid_agg m (ex.map orow) r.E l.T l.cs l.w (wid_ok l h1 (by omega)) (by omega)
  rw [<-Ot.E_eq] at this;exact this
 | .distinct l,h,hw=>by
  have:=wid_distinct l.T l.cs l.w (wid_ok l h hw) hw
  rw [<-Ot.E_eq] at this;exact this
 | .union l r,h,hw=>by
  have:=wid_union r.E l.T l.cs l.w (wid_ok l h.1 hw) hw
  rw [<-Ot.E_eq] at this;exact this
theorem ebox_side {args:RF->List D} {i:Int} {e:E} {d:D} (ha: ∀t,args t=rens t (args id)) (hl:lts 2 (args id)=true) (hd: ∀t,d=d.ren t):Side args (fun _=> [.box [.int i],.box [.e e]]) (fun _=>d) (fun _=> [.box [.int i],.box [.e e]]):=
 ⟨ha,hl,fun t=>rfl,by intro o ho;simp at ho;rcases ho with rfl | rfl <;>rfl,hd,fun t=>rfl,by simp⟩
theorem ebox_fin {A:Ar} (hA:A.Ok) {i:Int} {e:E} {l':List O} {d' d:D} (h0:hpF l' 0= .box [.int i]) (h2:hpF l' 1= .box [.e e]) (h1:d=d') (hd: ∀t,d=d.ren t) (hl: ∀m,d.lt m=true):A.finv [.box [.int i],.box [.e e]] l' d' [.box [.int i],.box [.e e]] d:=
 hA.finv _ _ _ _ _ (FinV.ren [0,1] (fun _=> [.box [.int i],.box [.e e]]) (fun _=>d) rfl (.inl h1) ⟨h0,h2,trivial⟩ hd (hl _) (fun t=>rfl) (by intro o ho;simp at ho;rcases ho with rfl | rfl <;>rfl))
theorem ok218 (e:List (Int×Int)) (x:List (List E)) (hx:x=e.map orow) (hlen:x.length<=1048576) (env:Int) (he:0<=env/\env<=1000) (T1:TypeId) (c1:List E) (w1:Int) (h1:Wid T1 c1 w1) (hw1:0<=w1/\w1<=1000) (v:Int) (hv:v=env+w1):
  Proc Tryz.prog 218 (fun t=> [.e (.sl x),.ref (t 0) 0,.ref (t 1) 0]) (fun _=> [.box [.int env],.box [.e (.ia T1 c1)]]) (fun _=> .bool (!exOk e v)) (fun _=> [.box [.int env],.box [.e (.ia T1 c1)]]):=by
 have h:=ok216 e x hx hlen v
 obtain ⟨b,hb⟩: ∃b,b=exOk e v:=⟨_,rfl⟩
 obtain ⟨nb,hnb⟩: ∃nb,nb=!b:=⟨_,rfl⟩
 rw [<-hb] at h ⊢
 rw [<-hnb]
 refine procOf mixed p218 (ebox_side (fun t=>rfl) rfl (fun t=>rfl)) fun A P hA hP=>?_
 obtain ⟨⟨fn1,d1,hd1,hfr1,hm1,hp1⟩⟩:=h1
 have hm1:MRow P T1 "loop.example/s0035/impl.width" fn1:=hP▸hm1
 have hs1:v=A.add env w1:=by rw [hA.add,hv]
 cases b
 all_goals
  cbv
  repeat' first | exact W1 | (simp only [<-hs1];cbv) | refine WA ?_ ?_ | with_reducible intro hcc | refine WS ?_ | ((with_reducible first | refine callK_f hA hP h ?_ ?_ ?_);exact rfl;exact rfl;cbv) | ((with_reducible refine hA.invk hm1 hd1 ?_);cbv) | ((with_reducible show A.call _ _ _ _ _ fn1 _ _ _);refine callK_eq hA hP hfr1 rfl ?_ (Wks.refl _) (fun _ _=>hp1);cbv) | refine W6 ?_ | ((with_reducible first | refine hA.Sapp ?_ fun sl hsl=>?_);rotate_left;cbv) | refine WL ?_ | fail
  all_goals try simp only [hA.sm,n_cast] at *
  all_goals first
   | omega
   | (subst hnb;exact ebox_fin hA rfl rfl rfl (fun _=>rfl) fun _=>rfl)
theorem fok326:fOK Tryz.prog 218:=⟨_,Tryz.func218,by decide,rfl⟩
theorem ok236o (l:List (List (Int×Int))) (es:List (List E)) (he:es=l.map orr) (hel: ∀e∈l,e.length<=1048576) (env:Int) (hen:0<=env/\env<=1000) (T1:TypeId) (c1:List E) (w1:Int) (h1:Wid T1 c1 w1) (hw1:0<=w1/\w1<=1000) (v:Int) (hv:v=env+w1):
  Proc Tryz.prog 236 (fun t=> [.e (.sl es),.fn (.func 218) [] [.ref (t 0) 0,.ref (t 1) 0]]) (fun _=> [.box [.int env],.box [.e (.ia T1 c1)]]) (fun _=> .int (fstG (fun k=>!exOk k v) l 0)) (fun _=> [.box [.int env],.box [.e (.ia T1 c1)]]):=by
 obtain ⟨r,hr⟩: ∃r,r=fstG (fun k=>!exOk k v) l 0:=⟨_,rfl⟩
 rw [<-hr]
 refine procOf mixed p236 (ebox_side (fun t=>rfl) rfl (fun t=>rfl)) fun A P hA hP=>?_
 have hf': ∃func,P.funcs[218]?=some func/\ ¬func.name= "runtime.NumGoroutine" /\func.body.isNone=false:=hP▸fok326
 have hl1:es.length=l.length:=by rw [he];simp
 cbv
 repeat' first | exact W1 | refine WA ?_ ?_ | with_reducible intro hcc | refine WS ?_ | refine W6 ?_ | ((with_reducible first | refine hA.Len fun z hz hb=>?_ | refine hA.Off fun b hb=>?_);cbv) | ((with_reducible first | refine hA.Sapp ?_ fun sl hsl=>?_);rotate_left;cbv) | refine WL ?_ | fail
 all_goals try simp only [hA.sm,n_cast] at *
 refine hA.loopI (fun m s=> ∃(i:Int),0<=i/\m+i=es.length/\r=fstG (fun k=>!exOk k v) (l.drop i.toNat) i/\s=⟨[(8,.int i),(7,.int z),(0,.e (.sl es)),(1,.fn (.func 218) [] [.ref 0 0,.ref 1 0])], [.box [.int env],.box [.e (.ia T1 c1)]]⟩) es.length _
  (Weak.keep (env':= [(8,.int 0),(7,.int z),(0,.e (.sl es)),(1,.fn (.func 218) [] [.ref 0 0,.ref 1 0])]) ⟨rfl,rfl,rfl,rfl,trivial⟩) ⟨0,by omega,by omega,hr,rfl⟩ ?_
 rintro m s K ⟨i,h0,h1',h2,rfl⟩ hK
 by_cases hin:(0:Int)<=i/\i<es.length
 ·obtain ⟨k,e1,q1⟩:=ors_at he hin
  obtain ⟨xk,hxk⟩: ∃x,x=k.map orow:=⟨_,rfl⟩
  have e1:es.getD i.toNat []= [E.sl xk]:=e1.trans (by rw [hxk])
  have h326:=ok218 k xk hxk (by rw [hxk,List.length_map];exact hel _ (List.mem_of_getElem? q1)) env hen T1 c1 w1 h1 hw1 v hv
  obtain ⟨b,hb⟩: ∃b,b=!exOk k v:=⟨_,rfl⟩
  rw [<-hb] at h326
  have hd:l.drop i.toNat=k::l.drop (i.toNat+1):=by
   obtain ⟨a,c⟩:=List.getElem?_eq_some_iff.1 q1
   rw [List.drop_eq_getElem_cons a,c]
  rw [hd,fstG,<-hb] at h2
  have hK2: ∀(en:List (Nat×D)),b=false->subL [(8,.int (i+1)),(7,.int z),(0,.e (.sl es)),(1,.fn (.func 218) [] [.ref 0 0,.ref 1 0])] en->K ⟨en, [.box [.int env],.box [.e (.ia T1 c1)]]⟩:=fun en g1 g3=>
   hK _ (m-1) _ (by omega) (Weak.keep g3) ⟨i+1,by omega,by omega,by rw [h2,g1,show (i+1).toNat=i.toNat+1 by omega];rfl,rfl⟩
  clear hK hr hb h1
  cases b
  all_goals
   clear hd
   cbv
   repeat' first | exact W1 | refine WA ?_ ?_ | with_reducible intro hcc | refine WS ?_ | (refine hA.RowE hin e1 ?_;cbv) | ((with_reducible show A.call _ _ _ _ _ 218 _ _ _);have hc:=h326;refine callK_pr hA hP [0,1] (by rfl) (by exact ⟨rfl,rfl,trivial⟩) (Wks.refl _) ?_ (fun _ _=>hc) hc.side;cbv) | refine W6 ?_ | ((with_reducible first | refine hA.Len fun z hz hb=>?_ | refine hA.Off fun b hb=>?_);cbv) | ((with_reducible first | refine hA.Sapp ?_ fun sl hsl=>?_);rotate_left;cbv) | refine WL ?_ | fail
   all_goals try simp only [hA.sm,n_cast] at *
   all_goals first
    | omega
    | exact hf'
    | (exfalso;simp only [decide_eq_true_eq,decide_eq_false_iff_not] at *;omega)
    | exact hK2 _ (by first | exact rfl | exact trivial) ⟨rfl,rfl,rfl,rfl,trivial⟩
    | (have e5:r=i:=h2
       exact ebox_fin hA rfl rfl (by rw [e5]) (fun _=>rfl) fun _=>rfl)
    | (clear hK2 h2;simp at *;omega)
 ·have hd:l.drop i.toNat= []:=by rw [List.drop_eq_nil_iff];omega
  rw [hd] at h2
  have e5:r= -1:=h2
  clear hK hr h2 h1
  cbv
  repeat' first | exact W1 | refine WA ?_ ?_ | with_reducible intro hcc | refine WS ?_ | (exfalso;simp only [hA.lt,hA.sub,decide_eq_true_eq,decide_eq_false_iff_not,n_cast] at *;omega) | refine W6 ?_ | ((with_reducible first | refine hA.Len fun z hz hb=>?_ | refine hA.Off fun b hb=>?_);cbv) | ((with_reducible first | refine hA.Sapp ?_ fun sl hsl=>?_);rotate_left;cbv) | refine WL ?_ | fail
  all_goals try simp only [hA.sm,n_cast] at *
  all_goals first
   | exact ebox_fin hA rfl rfl (by rw [e5]) (fun _=>rfl) fun _=>rfl
   | omega
theorem ok217o (l:List (List (Int×Int))) (es:List (List E)) (he:es=l.map orr) (hel: ∀e∈l,e.length<=1048576) (env:Int) (hen:0<=env/\env<=1000) (T1:TypeId) (c1:List E) (w1:Int) (h1:Wid T1 c1 w1) (hw1:0<=w1/\w1<=1000) (v:Int) (hv:v=env+w1):
  Proc Tryz.prog 217 (fun t=> [.e (.sl es),.fn (.func 218) [] [.ref (t 0) 0,.ref (t 1) 0]]) (fun _=> [.box [.int env],.box [.e (.ia T1 c1)]]) (fun _=> .bool (l.any fun k=>!exOk k v)) (fun _=> [.box [.int env],.box [.e (.ia T1 c1)]]):=by
 have h325:=ok236o l es he hel env hen T1 c1 w1 h1 hw1 v hv
 obtain ⟨x,hx⟩: ∃x,x=fstG (fun k=>!exOk k v) l 0:=⟨_,rfl⟩
 obtain ⟨r,hr⟩: ∃r,r=l.any fun k=>!exOk k v:=⟨_,rfl⟩
 rw [<-hx] at h325
 have hr2:r=decide (0<=x):=by rw [hr,hx,fstG_any _ _ _ (Int.le_refl 0)]
 rw [<-hr]
 refine procOf mixed p217 (ebox_side (fun t=>rfl) rfl (fun t=>rfl)) fun A P hA hP=>?_
 clear hr hx
 cbv
 repeat' first | exact W1 | refine WA ?_ ?_ | with_reducible intro hcc | refine WS ?_ | ((with_reducible show A.call _ _ _ _ _ 236 _ _ _);have hc:=h325;refine callK_pr hA hP [0,1] (by rfl) (by exact ⟨rfl,rfl,trivial⟩) (Wks.refl _) ?_ (fun _ _=>hc) hc.side;cbv) | refine W6 ?_ | refine WL ?_ | fail
 all_goals try simp only [hA.sm,n_cast] at *
 all_goals exact ebox_fin hA rfl rfl (by rw [hr2]) (fun _=>rfl) fun _=>rfl
end Go.Proofs.YtfplalbognalkaaGreat.Ab
/- Plans: kinds, fields that are not used. -/
namespace Go.Proofs.YtfplalbognalkaaGreat.Ab
open Go
theorem ok115 (k:Int):Plain Tryz.prog 115 [.int k] (.bool (hasL k)):=okOf mixed p115 fun A P hA hP=>(by
 obtain ⟨r,hr⟩: ∃r,r=hasL k:=⟨_,rfl⟩
 rw [<-hr]
 cbv
 repeat' first | exact W1 | refine WA ?_ ?_ | with_reducible intro hcc | refine WS ?_ | refine W6 ?_ | ((with_reducible first | refine hA.gb _ _ fun vb hvb=>?_);cbv) | refine WL ?_ | fail
 all_goals try simp only [hA.sm,n_cast] at *
 all_goals first | trivial | exact gg1 _ | exact gg2 _ | exact gg3 _ | exact gg4 _ | exact gg5 _ | (clear hr;split <;>first | rfl | trivial | assumption | (simp_all;done)) | (rw [hr,hasL];grind))
theorem ok116 (k:Int):Plain Tryz.prog 116 [.int k] (.bool (hasR k)):=okOf mixed p116 fun A P hA hP=>(by
 obtain ⟨r,hr⟩: ∃r,r=hasR k:=⟨_,rfl⟩
 rw [<-hr]
 cbv
 repeat' first | exact W1 | refine WA ?_ ?_ | with_reducible intro hcc | refine WS ?_ | refine W6 ?_ | ((with_reducible first | refine hA.gb _ _ fun vb hvb=>?_);cbv) | refine WL ?_ | fail
 all_goals try simp only [hA.sm,n_cast] at *
 all_goals first | trivial | exact gg1 _ | exact gg2 _ | exact gg3 _ | exact gg4 _ | exact gg5 _ | (clear hr;split <;>first | rfl | trivial | assumption | (simp_all;done)) | (rw [hr,hasR];grind))
theorem ok117 (k:Int):Plain Tryz.prog 117 [.int k] (.bool (depK k)):=okOf mixed p117 fun A P hA hP=>(by
 obtain ⟨r,hr⟩: ∃r,r=depK k:=⟨_,rfl⟩
 rw [<-hr]
 cbv
 repeat' first | exact W1 | refine WA ?_ ?_ | with_reducible intro hcc | refine WS ?_ | refine W6 ?_ | ((with_reducible first | refine hA.gb _ _ fun vb hvb=>?_);cbv) | refine WL ?_ | fail
 all_goals try simp only [hA.sm,n_cast] at *
 all_goals first | trivial | exact gg1 _ | exact gg2 _ | exact gg3 _ | exact gg4 _ | exact gg5 _ | (clear hr;split <;>first | rfl | trivial | assumption | (simp_all;done)) | (rw [hr,depK];grind))
def kidsN (k:Int):Int:=if k=1\/k=2 then 0 else if k=3\/k=4\/k=9 then 1 else if 1<=k/\k<=10 then 2 else-1
theorem ok155 (k:Int):Plain Tryz.prog 155 [.int k] (.int (kidsN k)):=okOf mixed p155 fun A P hA hP=>(by
 obtain ⟨r,hr⟩: ∃r,r=kidsN k:=⟨_,rfl⟩
 rw [<-hr]
 cbv
 repeat' first | exact W1 | refine WA ?_ ?_ | with_reducible intro hcc | refine WS ?_ | refine W6 ?_ | ((with_reducible first | refine hA.gb _ _ fun vb hvb=>?_);cbv) | refine WL ?_ | fail
 all_goals try simp only [hA.sm,n_cast] at *
 all_goals first | trivial | exact gg1 _ | exact gg2 _ | exact gg3 _ | exact gg4 _ | exact gg5 _ | (clear hr;split <;>first | rfl | trivial | assumption | (simp_all;done)) | (rw [show r=0 by rw [hr,kidsN];grind];done) | (rw [show r=1 by rw [hr,kidsN];grind];done) | (rw [show r=2 by rw [hr,kidsN];grind];done) | (rw [show r= -1 by rw [hr,kidsN];grind];done))
theorem ok157 (k env l:Int) (h:0<=env/\env<=100000/\0<=l/\l<=100000):Plain Tryz.prog 157 [.int k,.int env,.int l] (.int (if depK k then env+l else env)):=okOf mixed p157 fun A P hA hP=>(by
 obtain ⟨r,hr⟩: ∃r,r=if depK k then env+l else env:=⟨_,rfl⟩
 rw [<-hr]
 cbv
 repeat' first | exact W1 | refine WA ?_ ?_ | with_reducible intro hcc | refine WS ?_ | refine W6 ?_ | ((with_reducible first | refine hA.gb _ _ fun vb hvb=>?_);cbv) | ((with_reducible first | refine hA.Sapp ?_ fun sl hsl=>?_);rotate_left;cbv) | refine WL ?_ | fail
 all_goals try simp only [hA.sm,n_cast] at *
 all_goals first | omega | first | trivial | exact gg1 _ | exact gg2 _ | exact gg3 _ | exact gg4 _ | exact gg5 _ | (clear hr;split <;>first | rfl | trivial | assumption | (simp_all;done)) | (rw [show r=env+l by rw [hr,depK];grind];done) | (rw [show r=env by rw [hr,depK];grind];done))
theorem ok163 (K T M:Int) (Ex:List (Int×Int)) (Exs:List (List (Int×Int))) (L R:Int) (x y:List (List E)) (hx:x=Ex.map orow) (hy:y=Exs.map orr):
  Plain Tryz.prog 163 [.agg [.int K,.int T,.int M,.e (.sl x),.e (.sl y),.int L,.int R]] (.bool (usedI ⟨K,T,M,Ex,Exs,L,R⟩)):=okOf mixed p163 fun A P hA hP=>(by
 obtain ⟨zx,hzx⟩: ∃z:Int,z=x.length:=⟨_,rfl⟩
 obtain ⟨zy,hzy⟩: ∃z:Int,z=y.length:=⟨_,rfl⟩
 have hx0:(Ex= []) ↔ ¬0<zx:=by rw [hzx,hx];cases Ex <;>simp
 have hy0:(Exs= []) ↔ ¬0<zy:=by rw [hzy,hy];cases Exs <;>simp
 obtain ⟨r,hr⟩: ∃r,r=usedI ⟨K,T,M,Ex,Exs,L,R⟩:=⟨_,rfl⟩
 rw [<-hr]
 simp only [usedI,hx0,hy0] at hr
 clear hx hy hx0 hy0
 obtain ⟨k2,hk2⟩: ∃b,b=decide (K=2):=⟨_,rfl⟩
 have v2:A.eq K 2=k2:=by rw [hA.eq,hk2]
 obtain ⟨k3,hk3⟩: ∃b,b=decide (K=3):=⟨_,rfl⟩
 have v3:A.eq K 3=k3:=by rw [hA.eq,hk3]
 obtain ⟨k4,hk4⟩: ∃b,b=decide (K=4):=⟨_,rfl⟩
 have v4:A.eq K 4=k4:=by rw [hA.eq,hk4]
 obtain ⟨k7,hk7⟩: ∃b,b=decide (K=7):=⟨_,rfl⟩
 have v7:A.eq K 7=k7:=by rw [hA.eq,hk7]
 obtain ⟨k8,hk8⟩: ∃b,b=decide (K=8):=⟨_,rfl⟩
 have v8:A.eq K 8=k8:=by rw [hA.eq,hk8]
 obtain ⟨t0,ht0⟩: ∃b,b=decide (T=0):=⟨_,rfl⟩
 have vt:A.eq T 0=t0:=by rw [hA.eq,ht0]
 obtain ⟨m0,hm0⟩: ∃b,b=decide (M=0):=⟨_,rfl⟩
 have vm0:A.eq M 0=m0:=by rw [hA.eq,hm0]
 obtain ⟨m1,hm1⟩: ∃b,b=decide (1<M):=⟨_,rfl⟩
 have vm1:A.lt 1 M=m1:=by rw [hA.lt,hm1]
 obtain ⟨m2,hm2⟩: ∃b,b=decide (1<=M):=⟨_,rfl⟩
 have vm2:A.le 1 M=m2:=by rw [hA.le,hm2]
 obtain ⟨m4,hm4⟩: ∃b,b=decide (M<=4):=⟨_,rfl⟩
 have vm4:A.le M 4=m4:=by rw [hA.le,hm4]
 obtain ⟨x0,hx0⟩: ∃b,b=decide (0<zx):=⟨_,rfl⟩
 have vx0:A.lt 0 zx=x0:=by rw [hA.lt,hx0]
 obtain ⟨y0,hy0⟩: ∃b,b=decide (0<zy):=⟨_,rfl⟩
 have vy0:A.lt 0 zy=y0:=by rw [hA.lt,hy0]
 have hr:r=((k2 || t0)&&((k8 || m0)&&(((k3 || (k7 || (k8&&m1))) || !x0)&&((k4 || !y0)&&(!k8 || (m2&&m4)))))):=by
  rw [hr,hk2,hk3,hk4,hk7,hk8,ht0,hm0,hm1,hm2,hm4,hx0,hy0]
  simp only [decide_not,Bool.decide_and]
 clear ht0 hm0 hm1 hm2 hm4 hx0 hy0
 rcases (show K=2\/K=3\/K=4\/K=7\/K=8\/(¬K=2/\ ¬K=3/\ ¬K=4/\ ¬K=7/\ ¬K=8) by omega) with c | c | c | c | c | ⟨c2,c3,c4,c7,c8⟩
 all_goals
  first
   | (rw [c] at hk2 hk3 hk4 hk7 hk8
      simp only [Int.reduceEq,decide_true,decide_false] at hk2 hk3 hk4 hk7 hk8)
   | (rw [decide_eq_false c2] at hk2
      rw [decide_eq_false c3] at hk3
      rw [decide_eq_false c4] at hk4
      rw [decide_eq_false c7] at hk7
      rw [decide_eq_false c8] at hk8)
  subst hk2;subst hk3;subst hk4;subst hk7;subst hk8
  simp only [Bool.true_or,Bool.false_or,Bool.or_true,Bool.or_false,Bool.true_and,Bool.false_and,Bool.and_true,Bool.and_false,Bool.not_true,Bool.not_false] at hr
  cbv
  repeat' first | exact W1 | (simp only [v2,v3,v4,v7,v8,vt,vm0,vm1,vm2,vm4,vx0,vy0];cbv) | refine WA ?_ ?_ | with_reducible intro hcc | refine WS ?_ | (refine hA.LenE hzx fun hb=>?_;cbv) | (refine hA.LenE hzy fun hb=>?_;cbv) | refine W6 ?_ | ((with_reducible first | refine hA.Len fun z hz hb=>?_ | refine hA.gb _ _ fun vb hvb=>?_);cbv) | refine WL ?_ | fail
  all_goals try simp only [hA.sm,n_cast] at *
  all_goals first | trivial | exact gg1 _ | exact gg2 _ | exact gg3 _ | exact gg4 _ | exact gg5 _ | (clear hr;split <;>first | rfl | trivial | assumption | (simp_all;done)) | (rw [hr];grind))
theorem ok156 (K T M:Int) (Ex:List (Int×Int)) (Exs:List (List (Int×Int))) (L R:Int) (x y xt:List (List E)) (hx:x=Ex.map orow) (hy:y=Exs.map orr):
  Plain Tryz.prog 156 [.agg [.int K,.int T,.int M,.e (.sl x),.e (.sl y),.int L,.int R],.agg [.e (.sl xt)]] (.bool (usedS ⟨K,T,M,Ex,Exs,L,R⟩ xt.length)):=okOf mixed p156 fun A P hA hP=>(by
 obtain ⟨zx,hzx⟩: ∃z:Int,z=x.length:=⟨_,rfl⟩
 obtain ⟨zy,hzy⟩: ∃z:Int,z=y.length:=⟨_,rfl⟩
 obtain ⟨zt,hzt⟩: ∃z:Int,z=xt.length:=⟨_,rfl⟩
 have hx0:(Ex= []) ↔ zx=0:=by rw [hzx,hx];cases Ex <;>simp <;>omega
 have hy0:(Exs= []) ↔ zy=0:=by rw [hzy,hy];cases Exs <;>simp <;>omega
 obtain ⟨r,hr⟩: ∃r,r=usedS ⟨K,T,M,Ex,Exs,L,R⟩ xt.length:=⟨_,rfl⟩
 rw [<-hr]
 simp only [usedS,hx0,hy0,<-hzt] at hr
 clear hx hy hx0 hy0
 obtain ⟨k2,hk2⟩: ∃b,b=decide (K=2):=⟨_,rfl⟩
 have v2:A.eq K 2=k2:=by rw [hA.eq,hk2]
 obtain ⟨k3,hk3⟩: ∃b,b=decide (K=3):=⟨_,rfl⟩
 have v3:A.eq K 3=k3:=by rw [hA.eq,hk3]
 obtain ⟨k4,hk4⟩: ∃b,b=decide (K=4):=⟨_,rfl⟩
 have v4:A.eq K 4=k4:=by rw [hA.eq,hk4]
 obtain ⟨k7,hk7⟩: ∃b,b=decide (K=7):=⟨_,rfl⟩
 have v7:A.eq K 7=k7:=by rw [hA.eq,hk7]
 obtain ⟨k8,hk8⟩: ∃b,b=decide (K=8):=⟨_,rfl⟩
 have v8:A.eq K 8=k8:=by rw [hA.eq,hk8]
 obtain ⟨t0,ht0⟩: ∃b,b=decide (T=0):=⟨_,rfl⟩
 have vt:A.eq T 0=t0:=by rw [hA.eq,ht0]
 obtain ⟨t1,ht1⟩: ∃b,b=decide (T<0):=⟨_,rfl⟩
 have vt1:A.lt T 0=t1:=by rw [hA.lt,ht1]
 obtain ⟨t2,ht2⟩: ∃b,b=decide (zt<=T):=⟨_,rfl⟩
 have vt2:A.le zt T=t2:=by rw [hA.le,ht2]
 obtain ⟨m0,hm0⟩: ∃b,b=decide (M=0):=⟨_,rfl⟩
 have vm0:A.eq M 0=m0:=by rw [hA.eq,hm0]
 obtain ⟨m1,hm1⟩: ∃b,b=decide (M=1):=⟨_,rfl⟩
 have vm1:A.eq M 1=m1:=by rw [hA.eq,hm1]
 obtain ⟨m2,hm2⟩: ∃b,b=decide (M<1):=⟨_,rfl⟩
 have vm2:A.lt M 1=m2:=by rw [hA.lt,hm2]
 obtain ⟨m4,hm4⟩: ∃b,b=decide (4<M):=⟨_,rfl⟩
 have vm4:A.lt 4 M=m4:=by rw [hA.lt,hm4]
 obtain ⟨x0,hx0⟩: ∃b,b=decide (zx=0):=⟨_,rfl⟩
 have vx0:A.eq zx 0=x0:=by rw [hA.eq,hx0]
 obtain ⟨y0,hy0⟩: ∃b,b=decide (zy=0):=⟨_,rfl⟩
 have vy0:A.eq zy 0=y0:=by rw [hA.eq,hy0]
 have hr:r=((k2 || t0)&&((!k2 || (!t1&&!t2))&&((k8 || m0)&&((!k8 || (!m2&&!m4))&&(((k3 || (k7 || (k8&&!m1))) || x0)&&(k4 || y0)))))):=by
  rw [hr,hk2,hk3,hk4,hk7,hk8,ht0,ht1,ht2,hm0,hm1,hm2,hm4,hx0,hy0]
  simp only [<-decide_not,Int.not_lt,Int.not_le,ne_eq,Bool.decide_and]
 clear ht0 ht1 ht2 hm0 hm1 hm2 hm4 hx0 hy0
 rcases (show K=2\/K=3\/K=4\/K=7\/K=8\/(¬K=2/\ ¬K=3/\ ¬K=4/\ ¬K=7/\ ¬K=8) by omega) with c | c | c | c | c | ⟨c2,c3,c4,c7,c8⟩
 all_goals
  first
   | (rw [c] at hk2 hk3 hk4 hk7 hk8
      simp only [Int.reduceEq,decide_true,decide_false] at hk2 hk3 hk4 hk7 hk8)
   | (rw [decide_eq_false c2] at hk2
      rw [decide_eq_false c3] at hk3
      rw [decide_eq_false c4] at hk4
      rw [decide_eq_false c7] at hk7
      rw [decide_eq_false c8] at hk8)
  subst hk2;subst hk3;subst hk4;subst hk7;subst hk8
  simp only [Bool.true_or,Bool.false_or,Bool.or_true,Bool.or_false,Bool.true_and,Bool.false_and,Bool.and_true,Bool.and_false,Bool.not_true,Bool.not_false] at hr
  cbv
  repeat' first | exact W1 | (simp only [v2,v3,v4,v7,v8,vt,vt1,vt2,vm0,vm1,vm2,vm4,vx0,vy0];cbv) | refine WA ?_ ?_ | with_reducible intro hcc | refine WS ?_ | (refine hA.LenE hzx fun hb=>?_;cbv) | (refine hA.LenE hzy fun hb=>?_;cbv) | (refine hA.LenE hzt fun hb=>?_;cbv) | refine W6 ?_ | ((with_reducible first | refine hA.Len fun z hz hb=>?_ | refine hA.gb _ _ fun vb hvb=>?_);cbv) | refine WL ?_ | fail
  all_goals try simp only [hA.sm,n_cast] at *
  all_goals first | trivial | exact gg1 _ | exact gg2 _ | exact gg3 _ | exact gg4 _ | exact gg5 _ | (clear hr;split <;>first | rfl | trivial | assumption | (simp_all;done)) | (rw [hr];grind))
end Go.Proofs.YtfplalbognalkaaGreat.Ab
/- Plans: where stretches begin, by the specification. -/
namespace Go.Proofs.YtfplalbognalkaaGreat.Ab
open Go
theorem pd_at {ns:List Pd} {es:List (List E)} (he:es=ns.map pdr) {i:Int} (h:0<=i/\i<es.length): ∃K T M Ex Exs L R xe ye,ns.getD i.toNat default=⟨K,T,M,Ex,Exs,L,R⟩/\(⟨K,T,M,Ex,Exs,L,R⟩:Pd)∈ns/\xe=Ex.map orow/\ye=Exs.map orr/\es.getD i.toNat []= [E.int K,E.int T,E.int M,E.sl xe,E.sl ye,E.int L,E.int R]:=by
 obtain ⟨⟨K,T,M,Ex,Exs,L,R⟩,e,q⟩:=row_at he h
 exact ⟨K,T,M,Ex,Exs,L,R,_,_,by simp [List.getD,q],List.mem_of_getElem? q,rfl,rfl,e⟩
theorem l3F_le (ns:List Pd) (n:Nat) (i:Int) (h: -1<=i):l3F ns n i<=i:=by
 by_cases h0:0<=i
 ·rw [<-frN_eq ns n i h0];exact frN_le ns n i h
 ·rw [l3F_neg ns n (by omega)];exact h
theorem ok79 (ns:List Pd) (x:List (List E)) (hx:x=ns.map pdr) (hxl:x.length<=1048576): ∀(n:Nat) (i:Int),-1<=i->i<n->i<x.length->Plain Tryz.prog 79 [.e (.sl x),.int i] (.int (l3F ns n i)):=by
 intro n
 induction n with
 | zero=>
  intro i h1 h2 h3
  rw [l3F_neg ns 0 (by omega)]
  refine okOf mixed p79 fun A P hA hP=>?_
  have e0:A.lt i 0=true:=by rw [hA.lt];exact decide_eq_true (by omega)
  cbv
  repeat' first | exact W1 | (simp only [e0];cbv) | refine WA ?_ ?_ | with_reducible intro hcc | refine WS ?_ | ((with_reducible refine hA.row0 _ _ _ fun p row=>?_);cbv) | ((with_reducible show A.call _ _ _ _ false _ _ _ _);refine callK_no hA (.int 0) ?_;cbv) | refine W6 ?_ | ((with_reducible first | refine hA.Off fun b hb=>?_ | refine hA.Plus fun b hb=>?_ | refine hA.gb _ _ fun vb hvb=>?_);cbv) | ((with_reducible first | refine hA.Sto ?_ fun ds hds=>?_);rotate_left;cbv) | refine WL ?_ | fail
  all_goals try simp only [hA.sm,n_cast] at *
  all_goals first | rfl | trivial
 | succ n ih=>
  intro i h1 h2 h3
  by_cases hi:i<0
  ·rw [l3F_neg ns (n+1) hi]
   refine okOf mixed p79 fun A P hA hP=>?_
   have e0:A.lt i 0=true:=by rw [hA.lt];exact decide_eq_true (by omega)
   cbv
   repeat' first | exact W1 | (simp only [e0];cbv) | refine WA ?_ ?_ | with_reducible intro hcc | refine WS ?_ | ((with_reducible refine hA.row0 _ _ _ fun p row=>?_);cbv) | ((with_reducible show A.call _ _ _ _ false _ _ _ _);refine callK_no hA (.int 0) ?_;cbv) | refine W6 ?_ | ((with_reducible first | refine hA.Off fun b hb=>?_ | refine hA.Plus fun b hb=>?_ | refine hA.gb _ _ fun vb hvb=>?_);cbv) | ((with_reducible first | refine hA.Sto ?_ fun ds hds=>?_);rotate_left;cbv) | refine WL ?_ | fail
   all_goals try simp only [hA.sm,n_cast] at *
   all_goals first | rfl | trivial
  ·have hix:(0:Int)<=i/\i<x.length:=by omega
   obtain ⟨K,T,M,Ex,Exs,L,R,xe,ye,q0,qm,hxe,hye,q1⟩:=pd_at hx hix
   obtain ⟨r,hr⟩: ∃r,r=l3F ns (n+1) i:=⟨_,rfl⟩
   rw [<-hr]
   simp only [l3F] at hr
   rw [q0] at hr
   simp only at hr
   have ih1:=ih (i-1) (by omega) (by omega) (by omega)
   obtain ⟨a,ha⟩: ∃a,a=l3F ns n (i-1):=⟨_,rfl⟩
   have hal:=l3F_le ns n (i-1) (by omega)
   have hal2:=l3F_lo ns n (i-1)
   rw [<-ha] at ih1 hr hal hal2
   have ih2:1<=a->Plain Tryz.prog 79 [.e (.sl x),.int (a-1)] (.int (l3F ns n (a-1))):=fun h=>ih (a-1) (by omega) (by omega) (by omega)
   obtain ⟨b,hb⟩: ∃b,b=l3F ns n (a-1):=⟨_,rfl⟩
   rw [<-hb] at ih2 hr
   refine okOf mixed p79 fun A P hA hP=>?_
   have e0:A.lt i 0=false:=by rw [hA.lt];exact decide_eq_false (by omega)
   have h288:=ok155 K
   obtain ⟨kn,hkn⟩: ∃k,k=kidsN K:=⟨_,rfl⟩
   rw [<-hkn] at h288
   obtain ⟨i1,hi1⟩: ∃z,z=A.sub i 1:=⟨_,rfl⟩
   have hi1':i1=i-1:=by rw [hi1,hA.sub]
   obtain ⟨a1,ha1⟩: ∃z,z=A.sub a 1:=⟨_,rfl⟩
   have ha1':a1=a-1:=by rw [ha1,hA.sub]
   rw [<-hi1'] at ih1 hr
   rw [<-ha1'] at ih2 hr
   obtain ⟨l0,hl0⟩: ∃b,b=decide (L=0):=⟨_,rfl⟩
   have vl0:A.eq L 0=l0:=by rw [hA.eq,hl0]
   obtain ⟨r0,hr0⟩: ∃b,b=decide (R=0):=⟨_,rfl⟩
   have vr0:A.eq R 0=r0:=by rw [hA.eq,hr0]
   obtain ⟨li,hli⟩: ∃b,b=decide (L=i1):=⟨_,rfl⟩
   have vli:A.eq L i1=li:=by rw [hA.eq,hli]
   obtain ⟨ri,hri⟩: ∃b,b=decide (R=i1):=⟨_,rfl⟩
   have vri:A.eq R i1=ri:=by rw [hA.eq,hri]
   obtain ⟨la,hla⟩: ∃b,b=decide (L=a1):=⟨_,rfl⟩
   have vla:A.eq L a1=la:=by rw [hA.eq,hla]
   obtain ⟨aa,haa⟩: ∃b,b=decide (a<1):=⟨_,rfl⟩
   have vaa:A.lt a 1=aa:=by rw [hA.lt,haa]
   clear hb ih ha q0 qm
   rcases (show (¬(1<=K/\K<=10))\/(K=1\/K=2)\/(K=3\/K=4\/K=9)\/(5<=K/\K<=8\/K=10) by omega) with c | c | c | c
   ·have:kn= -1:=by rw [hkn,kidsN,if_neg (by omega),if_neg (by omega),if_neg c]
    have e1:A.lt kn 0=true:=by rw [hA.lt];exact decide_eq_true (by omega)
    have hr2:r= -1:=by rw [hr,if_pos (.inr c)]
    clear hr
    cbv
    repeat' first | exact W1 | (simp only [e0,e1];cbv) | refine WA ?_ ?_ | with_reducible intro hcc | refine WS ?_ | refine WK hA hP ?_ | (refine hA.RowE hix q1 ?_;cbv) | refine W6 ?_ | ((with_reducible first | refine hA.Off fun b hb=>?_ | refine hA.Plus fun b hb=>?_ | refine hA.gb _ _ fun vb hvb=>?_);cbv) | ((with_reducible first | refine hA.Sto ?_ fun ds hds=>?_);rotate_left;cbv) | refine WL ?_ | fail
    all_goals try simp only [hA.sm,n_cast] at *
    all_goals first | omega | (rw [hr2];done) | trivial
   ·have:kn=0:=by rw [hkn,kidsN,if_pos c]
    have e1:A.lt kn 0=false:=by rw [hA.lt];exact decide_eq_false (by omega)
    have e2:A.eq kn 0=true:=by rw [hA.eq];exact decide_eq_true (by omega)
    rw [if_neg (by omega),if_pos c] at hr
    have hr2:r=if (!l0 || !r0)=true then-1 else i:=by rw [hr,hl0,hr0];simp
    clear hr hl0 hr0
    cases l0 <;>cases r0
    all_goals
     cbv
     repeat' first | exact W1 | (simp only [e0,e1,e2,vl0,vr0];cbv) | refine WA ?_ ?_ | with_reducible intro hcc | refine WS ?_ | refine WK hA hP ?_ | (refine hA.RowE hix q1 ?_;cbv) | refine W6 ?_ | ((with_reducible first | refine hA.Off fun b hb=>?_ | refine hA.Plus fun b hb=>?_ | refine hA.gb _ _ fun vb hvb=>?_);cbv) | ((with_reducible first | refine hA.Sto ?_ fun ds hds=>?_);rotate_left;cbv) | refine WL ?_ | fail
     all_goals try simp only [hA.sm,n_cast] at *
     all_goals first | omega | (rw [hr2];done) | (rw [hr2];rfl) | trivial
   ·have hrf:hasR K=false:=by rw [hasR];simp;omega
    have:kn=1:=by rw [hkn,kidsN,if_neg (by omega),if_pos c]
    have e1:A.lt kn 0=false:=by rw [hA.lt];exact decide_eq_false (by omega)
    have e2:A.eq kn 0=false:=by rw [hA.eq];exact decide_eq_false (by omega)
    have e3:A.eq kn 1=true:=by rw [hA.eq];exact decide_eq_true (by omega)
    rw [if_neg (by omega),if_neg (by omega),if_pos hrf] at hr
    have hr2:r=if (!li || !r0)=true then-1 else a:=by rw [hr,hli,hr0];simp
    clear hr hli hr0
    cases li <;>cases r0
    all_goals
     cbv
     repeat' first | exact W1 | (simp only [e0,e1,e2,e3,<-hi1,vli,vr0];cbv) | refine WA ?_ ?_ | with_reducible intro hcc | refine WS ?_ | refine WK hA hP ?_ | (refine hA.RowE hix q1 ?_;cbv) | refine W6 ?_ | ((with_reducible first | refine hA.Off fun b hb=>?_ | refine hA.Plus fun b hb=>?_ | refine hA.gb _ _ fun vb hvb=>?_);cbv) | ((with_reducible first | refine hA.Sto ?_ fun ds hds=>?_);rotate_left;cbv) | refine WL ?_ | fail
     all_goals try simp only [hA.sm,n_cast] at *
     all_goals first | omega | (rw [hr2];done) | (rw [hr2];rfl) | trivial
   ·have hrf:hasR K=true:=by rw [hasR];simp;omega
    have:kn=2:=by rw [hkn,kidsN,if_neg (by omega),if_neg (by omega),if_pos (by omega)]
    have e1:A.lt kn 0=false:=by rw [hA.lt];exact decide_eq_false (by omega)
    have e2:A.eq kn 0=false:=by rw [hA.eq];exact decide_eq_false (by omega)
    have e3:A.eq kn 1=false:=by rw [hA.eq];exact decide_eq_false (by omega)
    rw [if_neg (by omega),if_neg (by omega),if_neg (by rw [hrf];simp)] at hr
    have hr2:r=if ri=false then-1 else if (aa || !la)=true then-1 else b:=by rw [hr,hri,haa,hla];simp
    have haa':aa=false->1<=a:=fun h=>by rw [haa] at h;have:=of_decide_eq_false h;omega
    clear hr hri haa hla
    cases ri
    ·skip
     cbv
     repeat' first | exact W1 | (simp only [e0,e1,e2,e3,<-hi1,vri];cbv) | refine WA ?_ ?_ | with_reducible intro hcc | refine WS ?_ | refine WK hA hP ?_ | (refine hA.RowE hix q1 ?_;cbv) | refine W6 ?_ | ((with_reducible first | refine hA.Off fun b hb=>?_ | refine hA.Plus fun b hb=>?_ | refine hA.gb _ _ fun vb hvb=>?_);cbv) | ((with_reducible first | refine hA.Sto ?_ fun ds hds=>?_);rotate_left;cbv) | refine WL ?_ | fail
     all_goals try simp only [hA.sm,n_cast] at *
     all_goals first | omega | (rw [hr2];done) | (rw [hr2];rfl) | trivial
    ·cases aa
     ·have ih2:=ih2 (haa' rfl)
      cases la
      all_goals
       cbv
       repeat' first | exact W1 | (simp only [e0,e1,e2,e3,<-hi1,<-ha1,vri,vaa,vla];cbv) | refine WA ?_ ?_ | with_reducible intro hcc | refine WS ?_ | refine WK hA hP ?_ | (refine hA.RowE hix q1 ?_;cbv) | refine W6 ?_ | ((with_reducible first | refine hA.Off fun b hb=>?_ | refine hA.Plus fun b hb=>?_ | refine hA.gb _ _ fun vb hvb=>?_);cbv) | ((with_reducible first | refine hA.Sto ?_ fun ds hds=>?_);rotate_left;cbv) | refine WL ?_ | fail
       all_goals try simp only [hA.sm,n_cast] at *
       all_goals first | omega | (rw [hr2];done) | (rw [hr2];rfl) | trivial
     ·skip
      cbv
      repeat' first | exact W1 | (simp only [e0,e1,e2,e3,<-hi1,<-ha1,vri,vaa];cbv) | refine WA ?_ ?_ | with_reducible intro hcc | refine WS ?_ | refine WK hA hP ?_ | (refine hA.RowE hix q1 ?_;cbv) | refine W6 ?_ | ((with_reducible first | refine hA.Off fun b hb=>?_ | refine hA.Plus fun b hb=>?_ | refine hA.gb _ _ fun vb hvb=>?_);cbv) | ((with_reducible first | refine hA.Sto ?_ fun ds hds=>?_);rotate_left;cbv) | refine WL ?_ | fail
      all_goals try simp only [hA.sm,n_cast] at *
      all_goals first | omega | (rw [hr2];done) | (rw [hr2];rfl) | trivial
end Go.Proofs.YtfplalbognalkaaGreat.Ab
/- Plans: widths, by the specification. -/
namespace Go.Proofs.YtfplalbognalkaaGreat.Ab
open Go
theorem tb_at {ts:List Tb} {xt:List (List E)} (hxt:xt=ts.map tbr) {T:Int} (h:0<=T/\T<xt.length): ∃ps px,xt.getD T.toNat []= [E.str ps,E.int (colsOf ts T),E.sl px]:=by
 obtain ⟨p,q1,q2⟩:=row_at hxt h
 exact ⟨p.1,p.2.2.map rsr,by rw [q1,colsOf];simp [List.getD,q2]⟩
theorem ok243_1 (T M:Int) (Ex:List (Int×Int)) (Exs:List (List (Int×Int))) (L R:Int) (x y es xt:List (List E)) (hx:x=Ex.map orow) (hy:y=Exs.map orr) (ts:List Tb) (hxt:xt=ts.map tbr) (hxl:x.length<=1048576) (hyl:y.length<=1048576) (hel: ∀e∈Exs,e.length<=1048576)
  (i env l r:Int) (hi:0<=i/\i<es.length) (q1:es.getD i.toNat []= [E.int 1,E.int T,E.int M,E.sl x,E.sl y,E.int L,E.int R]) (he:0<=env/\env<=200) (hl: -1<=l/\l<=200) (hr: -1<=r/\r<=200) (hct: ∀t:Int,0<=t->t<ts.length->0<=colsOf ts t/\colsOf ts t<=1000)
  :Plain Tryz.prog 80 [.agg [.e (.sl es)],.agg [.e (.sl xt)],.int i,.int env] (.int (if usedS ⟨1,T,M,Ex,Exs,L,R⟩ ts.length=false then-1 else if 0<0 then-1 else if 0<0 then-1 else ndS ⟨1,T,M,Ex,Exs,L,R⟩ (colsOf ts) env 0 0)):=okOf mixed p80 fun A P hA hP=>(by
 obtain ⟨zy,hzy⟩: ∃z:Int,z=y.length:=⟨_,rfl⟩
 have hyE:y.length=Exs.length:=by rw [hy];simp
 have hxT:xt.length=ts.length:=by rw [hxt];simp
 have h289:=ok156 1 T M Ex Exs L R x y xt hx hy
 rw [hxT] at h289
 have h288:Plain Tryz.prog 155 [.int 1] (.int 0):=ok155 1
 obtain ⟨u,hu⟩: ∃b,b=usedS ⟨1,T,M,Ex,Exs,L,R⟩ ts.length:=⟨_,rfl⟩
 rw [<-hu] at h289 ⊢
 obtain ⟨res,hres⟩: ∃v:Int,v=if u=false then-1 else if 0<0 then-1 else if 0<0 then-1 else ndS ⟨1,T,M,Ex,Exs,L,R⟩ (colsOf ts) env 0 0:=⟨_,rfl⟩
 rw [<-hres]
 have lt0:A.lt 0 0=false:=hA.lt _ _
 have lt1:A.lt 1 0=false:=hA.lt _ _
 have k2:A.eq 1 2=false:=hA.eq _ _
 have k3:A.eq 1 3=false:=hA.eq _ _
 have k4:A.eq 1 4=false:=hA.eq _ _
 have k5:A.eq 1 5=false:=hA.eq _ _
 have k6:A.eq 1 6=false:=hA.eq _ _
 have k7:A.eq 1 7=false:=hA.eq _ _
 have k8:A.eq 1 8=false:=hA.eq _ _
 have k10:A.eq 1 10=false:=hA.eq _ _
 have l00:A.lt 0 0=false:=hA.lt _ _
 cases u
 case false=>
  have hr2:res= -1:=by rw [hres,if_pos rfl]
  clear hres hct he hl hr hu
  cbv
  repeat' first | exact W1 | (simp only [lt0,lt1,k2,k3,k4,k5,k6,k7,k8,k10,l00];cbv) | refine WA ?_ ?_ | with_reducible intro hcc | refine WS ?_ | ((with_reducible refine hA.st [_,_,_,_,_,_,_] _ _ _ _ ⟨?_,fun ds hds=>?_⟩);rotate_left;subst hds;cbv) | (refine hA.RowE hi q1 ?_;cbv) | refine WK hA hP ?_ | ((with_reducible show A.call _ _ _ _ false _ _ _ _);refine callK_no hA (.bool false) ?_;cbv) | refine W6 ?_ | ((with_reducible first | refine hA.Len fun z hz hb=>?_ | refine hA.Off fun b hb=>?_ | refine hA.Plus fun b hb=>?_ | refine hA.gb _ _ fun vb hvb=>?_);cbv) | ((with_reducible first | refine hA.Sto ?_ fun ds hds=>?_ | refine hA.Sapp ?_ fun sl hsl=>?_);rotate_left;cbv) | refine WL ?_ | fail
  all_goals try simp only [hA.sm,n_cast] at *
  all_goals first | omega | trivial | rfl | exact gg1 _ | exact gg2 _ | exact gg3 _ | exact gg4 _ | exact gg5 _ | exact gg6 _ _ | (simp;done) | (rw [hr2];done)
 case true=>
 rw [if_neg (by simp)] at hres
 rw [if_neg (by omega)] at hres
 rw [if_neg (by omega)] at hres
 have hres:res=if 200<env+0 then-1 else 0:=by
  rw [hres,ndS]
  simp only [Int.reduceEq,if_true,if_false,true_and,false_and,and_true,or_true,true_or,or_false,false_or,Bool.false_eq_true,gt_iff_lt,ne_eq,not_true_eq_false,not_false_eq_true]
 obtain ⟨ew,hew⟩: ∃z,z=A.add env 0:=⟨_,rfl⟩
 have hew2:ew=env+0:=by rw [hew,hA.add]
 rw [<-hew2] at hres
 by_cases h200:200<ew
 ·have vw:A.lt 200 ew=true:=by rw [hA.lt];exact decide_eq_true h200
  rw [if_pos h200] at hres
  cbv
  repeat' first | exact W1 | (simp only [lt0,lt1,k2,k3,k4,k5,k6,k7,k8,k10,l00,<-hew,vw];cbv) | refine WA ?_ ?_ | with_reducible intro hcc | refine WS ?_ | ((with_reducible refine hA.st [_,_,_,_,_,_,_] _ _ _ _ ⟨?_,fun ds hds=>?_⟩);rotate_left;subst hds;cbv) | (refine hA.RowE hi q1 ?_;cbv) | refine WK hA hP ?_ | ((with_reducible show A.call _ _ _ _ false _ _ _ _);refine callK_no hA (.bool false) ?_;cbv) | refine W6 ?_ | ((with_reducible first | refine hA.Len fun z hz hb=>?_ | refine hA.Off fun b hb=>?_ | refine hA.Plus fun b hb=>?_ | refine hA.gb _ _ fun vb hvb=>?_);cbv) | ((with_reducible first | refine hA.Sto ?_ fun ds hds=>?_ | refine hA.Sapp ?_ fun sl hsl=>?_);rotate_left;cbv) | refine WL ?_ | fail
  all_goals try simp only [hA.sm,n_cast] at *
  all_goals first | omega | trivial | rfl | exact gg1 _ | exact gg2 _ | exact gg3 _ | exact gg4 _ | exact gg5 _ | exact gg6 _ _ | (simp;done) | (rw [hres];done)
 ·have vw:A.lt 200 ew=false:=by rw [hA.lt];exact decide_eq_false h200
  rw [if_neg h200] at hres
  cbv
  repeat' first | exact W1 | (simp only [lt0,lt1,k2,k3,k4,k5,k6,k7,k8,k10,l00,<-hew,vw];cbv) | refine WA ?_ ?_ | with_reducible intro hcc | refine WS ?_ | ((with_reducible refine hA.st [_,_,_,_,_,_,_] _ _ _ _ ⟨?_,fun ds hds=>?_⟩);rotate_left;subst hds;cbv) | (refine hA.RowE hi q1 ?_;cbv) | refine WK hA hP ?_ | ((with_reducible show A.call _ _ _ _ false _ _ _ _);refine callK_no hA (.bool false) ?_;cbv) | refine W6 ?_ | ((with_reducible first | refine hA.Len fun z hz hb=>?_ | refine hA.Off fun b hb=>?_ | refine hA.Plus fun b hb=>?_ | refine hA.gb _ _ fun vb hvb=>?_);cbv) | ((with_reducible first | refine hA.Sto ?_ fun ds hds=>?_ | refine hA.Sapp ?_ fun sl hsl=>?_);rotate_left;cbv) | refine WL ?_ | fail
  all_goals try simp only [hA.sm,n_cast] at *
  all_goals first | omega | trivial | rfl | exact gg1 _ | exact gg2 _ | exact gg3 _ | exact gg4 _ | exact gg5 _ | exact gg6 _ _ | (simp;done) | (rw [hres];done))
theorem ok243_2 (T M:Int) (Ex:List (Int×Int)) (Exs:List (List (Int×Int))) (L R:Int) (x y es xt:List (List E)) (hx:x=Ex.map orow) (hy:y=Exs.map orr) (ts:List Tb) (hxt:xt=ts.map tbr) (hxl:x.length<=1048576) (hyl:y.length<=1048576) (hel: ∀e∈Exs,e.length<=1048576)
  (i env l r:Int) (hi:0<=i/\i<es.length) (q1:es.getD i.toNat []= [E.int 2,E.int T,E.int M,E.sl x,E.sl y,E.int L,E.int R]) (he:0<=env/\env<=200) (hl: -1<=l/\l<=200) (hr: -1<=r/\r<=200) (hct: ∀t:Int,0<=t->t<ts.length->0<=colsOf ts t/\colsOf ts t<=1000)
  :Plain Tryz.prog 80 [.agg [.e (.sl es)],.agg [.e (.sl xt)],.int i,.int env] (.int (if usedS ⟨2,T,M,Ex,Exs,L,R⟩ ts.length=false then-1 else if 0<0 then-1 else if 0<0 then-1 else ndS ⟨2,T,M,Ex,Exs,L,R⟩ (colsOf ts) env 0 0)):=okOf mixed p80 fun A P hA hP=>(by
 obtain ⟨zy,hzy⟩: ∃z:Int,z=y.length:=⟨_,rfl⟩
 have hyE:y.length=Exs.length:=by rw [hy];simp
 have hxT:xt.length=ts.length:=by rw [hxt];simp
 have h289:=ok156 2 T M Ex Exs L R x y xt hx hy
 rw [hxT] at h289
 have h288:Plain Tryz.prog 155 [.int 2] (.int 0):=ok155 2
 obtain ⟨u,hu⟩: ∃b,b=usedS ⟨2,T,M,Ex,Exs,L,R⟩ ts.length:=⟨_,rfl⟩
 rw [<-hu] at h289 ⊢
 obtain ⟨res,hres⟩: ∃v:Int,v=if u=false then-1 else if 0<0 then-1 else if 0<0 then-1 else ndS ⟨2,T,M,Ex,Exs,L,R⟩ (colsOf ts) env 0 0:=⟨_,rfl⟩
 rw [<-hres]
 have lt0:A.lt 0 0=false:=hA.lt _ _
 have lt1:A.lt 1 0=false:=hA.lt _ _
 have k2:A.eq 2 2=true:=hA.eq _ _
 have k3:A.eq 2 3=false:=hA.eq _ _
 have k4:A.eq 2 4=false:=hA.eq _ _
 have k5:A.eq 2 5=false:=hA.eq _ _
 have k6:A.eq 2 6=false:=hA.eq _ _
 have k7:A.eq 2 7=false:=hA.eq _ _
 have k8:A.eq 2 8=false:=hA.eq _ _
 have k10:A.eq 2 10=false:=hA.eq _ _
 have l00:A.lt 0 0=false:=hA.lt _ _
 cases u
 case false=>
  have hr2:res= -1:=by rw [hres,if_pos rfl]
  clear hres hct he hl hr hu
  cbv
  repeat' first | exact W1 | (simp only [lt0,lt1,k2,k3,k4,k5,k6,k7,k8,k10,l00];cbv) | refine WA ?_ ?_ | with_reducible intro hcc | refine WS ?_ | ((with_reducible refine hA.st [_,_,_,_,_,_,_] _ _ _ _ ⟨?_,fun ds hds=>?_⟩);rotate_left;subst hds;cbv) | (refine hA.RowE hi q1 ?_;cbv) | refine WK hA hP ?_ | ((with_reducible show A.call _ _ _ _ false _ _ _ _);refine callK_no hA (.bool false) ?_;cbv) | refine W6 ?_ | ((with_reducible first | refine hA.Len fun z hz hb=>?_ | refine hA.Off fun b hb=>?_ | refine hA.Plus fun b hb=>?_ | refine hA.gb _ _ fun vb hvb=>?_);cbv) | ((with_reducible first | refine hA.Sto ?_ fun ds hds=>?_ | refine hA.Sapp ?_ fun sl hsl=>?_);rotate_left;cbv) | refine WL ?_ | fail
  all_goals try simp only [hA.sm,n_cast] at *
  all_goals first | omega | trivial | rfl | exact gg1 _ | exact gg2 _ | exact gg3 _ | exact gg4 _ | exact gg5 _ | exact gg6 _ _ | (simp;done) | (rw [hr2];done)
 case true=>
 rw [if_neg (by simp)] at hres
 rw [if_neg (by omega)] at hres
 rw [if_neg (by omega)] at hres
 have hT:(0:Int)<=T/\T<xt.length:=by
  simp only [usedS] at hu
  simp at hu
  omega
 obtain ⟨ps,px,q3⟩:=tb_at hxt hT
 have hc:=hct T hT.1 (by omega)
 obtain ⟨cT,hcT⟩: ∃c,c=colsOf ts T:=⟨_,rfl⟩
 rw [<-hcT] at q3 hc
 have hres:res=if 200<env+cT then-1 else cT:=by
  rw [hres,ndS]
  simp only [Int.reduceEq,if_true,if_false,<-hcT,true_and,false_and,and_true,or_true,true_or,or_false,false_or,Bool.false_eq_true,gt_iff_lt,ne_eq,not_true_eq_false,not_false_eq_true]
 clear hct hu
 obtain ⟨ew,hew⟩: ∃z,z=A.add env cT:=⟨_,rfl⟩
 have hew2:ew=env+cT:=by rw [hew,hA.add]
 rw [<-hew2] at hres
 by_cases h200:200<ew
 ·have vw:A.lt 200 ew=true:=by rw [hA.lt];exact decide_eq_true h200
  rw [if_pos h200] at hres
  cbv
  repeat' first | exact W1 | (simp only [lt0,lt1,k2,k3,k4,k5,k6,k7,k8,k10,l00,<-hew,vw];cbv) | refine WA ?_ ?_ | with_reducible intro hcc | refine WS ?_ | ((with_reducible refine hA.st [_,_,_,_,_,_,_] _ _ _ _ ⟨?_,fun ds hds=>?_⟩);rotate_left;subst hds;cbv) | (refine hA.RowE hi q1 ?_;cbv) | refine WK hA hP ?_ | ((with_reducible show A.call _ _ _ _ false _ _ _ _);refine callK_no hA (.bool false) ?_;cbv) | (refine hA.RowE hT q3 ?_;cbv) | refine W6 ?_ | ((with_reducible first | refine hA.Len fun z hz hb=>?_ | refine hA.Off fun b hb=>?_ | refine hA.Plus fun b hb=>?_ | refine hA.gb _ _ fun vb hvb=>?_);cbv) | ((with_reducible first | refine hA.Sto ?_ fun ds hds=>?_ | refine hA.Sapp ?_ fun sl hsl=>?_);rotate_left;cbv) | refine WL ?_ | fail
  all_goals try simp only [hA.sm,n_cast] at *
  all_goals first | omega | trivial | rfl | exact gg1 _ | exact gg2 _ | exact gg3 _ | exact gg4 _ | exact gg5 _ | exact gg6 _ _ | (simp;done) | (rw [hres];done)
 ·have vw:A.lt 200 ew=false:=by rw [hA.lt];exact decide_eq_false h200
  rw [if_neg h200] at hres
  cbv
  repeat' first | exact W1 | (simp only [lt0,lt1,k2,k3,k4,k5,k6,k7,k8,k10,l00,<-hew,vw];cbv) | refine WA ?_ ?_ | with_reducible intro hcc | refine WS ?_ | ((with_reducible refine hA.st [_,_,_,_,_,_,_] _ _ _ _ ⟨?_,fun ds hds=>?_⟩);rotate_left;subst hds;cbv) | (refine hA.RowE hi q1 ?_;cbv) | refine WK hA hP ?_ | ((with_reducible show A.call _ _ _ _ false _ _ _ _);refine callK_no hA (.bool false) ?_;cbv) | (refine hA.RowE hT q3 ?_;cbv) | refine W6 ?_ | ((with_reducible first | refine hA.Len fun z hz hb=>?_ | refine hA.Off fun b hb=>?_ | refine hA.Plus fun b hb=>?_ | refine hA.gb _ _ fun vb hvb=>?_);cbv) | ((with_reducible first | refine hA.Sto ?_ fun ds hds=>?_ | refine hA.Sapp ?_ fun sl hsl=>?_);rotate_left;cbv) | refine WL ?_ | fail
  all_goals try simp only [hA.sm,n_cast] at *
  all_goals first | omega | trivial | rfl | exact gg1 _ | exact gg2 _ | exact gg3 _ | exact gg4 _ | exact gg5 _ | exact gg6 _ _ | (simp;done) | (rw [hres];done))
theorem ok243_3 (T M:Int) (Ex:List (Int×Int)) (Exs:List (List (Int×Int))) (L R:Int) (x y es xt:List (List E)) (hx:x=Ex.map orow) (hy:y=Exs.map orr) (ts:List Tb) (hxt:xt=ts.map tbr) (hxl:x.length<=1048576) (hyl:y.length<=1048576) (hel: ∀e∈Exs,e.length<=1048576)
  (i env l r:Int) (hi:0<=i/\i<es.length) (q1:es.getD i.toNat []= [E.int 3,E.int T,E.int M,E.sl x,E.sl y,E.int L,E.int R]) (he:0<=env/\env<=200) (hl: -1<=l/\l<=200) (hr: -1<=r/\r<=200) (hct: ∀t:Int,0<=t->t<ts.length->0<=colsOf ts t/\colsOf ts t<=1000)
  (hl1:Plain Tryz.prog 80 [.agg [.e (.sl es)],.agg [.e (.sl xt)],.int L,.int env] (.int l))
  :Plain Tryz.prog 80 [.agg [.e (.sl es)],.agg [.e (.sl xt)],.int i,.int env] (.int (if usedS ⟨3,T,M,Ex,Exs,L,R⟩ ts.length=false then-1 else if l<0 then-1 else if 0<0 then-1 else ndS ⟨3,T,M,Ex,Exs,L,R⟩ (colsOf ts) env l 0)):=okOf mixed p80 fun A P hA hP=>(by
 obtain ⟨zy,hzy⟩: ∃z:Int,z=y.length:=⟨_,rfl⟩
 have hyE:y.length=Exs.length:=by rw [hy];simp
 have hxT:xt.length=ts.length:=by rw [hxt];simp
 have h289:=ok156 3 T M Ex Exs L R x y xt hx hy
 rw [hxT] at h289
 have h288:Plain Tryz.prog 155 [.int 3] (.int 1):=ok155 3
 obtain ⟨u,hu⟩: ∃b,b=usedS ⟨3,T,M,Ex,Exs,L,R⟩ ts.length:=⟨_,rfl⟩
 rw [<-hu] at h289 ⊢
 obtain ⟨res,hres⟩: ∃v:Int,v=if u=false then-1 else if l<0 then-1 else if 0<0 then-1 else ndS ⟨3,T,M,Ex,Exs,L,R⟩ (colsOf ts) env l 0:=⟨_,rfl⟩
 rw [<-hres]
 have lt0:A.lt 0 1=true:=hA.lt _ _
 have lt1:A.lt 1 1=false:=hA.lt _ _
 have k2:A.eq 3 2=false:=hA.eq _ _
 have k3:A.eq 3 3=true:=hA.eq _ _
 have k4:A.eq 3 4=false:=hA.eq _ _
 have k5:A.eq 3 5=false:=hA.eq _ _
 have k6:A.eq 3 6=false:=hA.eq _ _
 have k7:A.eq 3 7=false:=hA.eq _ _
 have k8:A.eq 3 8=false:=hA.eq _ _
 have k10:A.eq 3 10=false:=hA.eq _ _
 have l00:A.lt 0 0=false:=hA.lt _ _
 cases u
 case false=>
  have hr2:res= -1:=by rw [hres,if_pos rfl]
  clear hres hct he hl hr hu
  cbv
  repeat' first | exact W1 | (simp only [lt0,lt1,k2,k3,k4,k5,k6,k7,k8,k10,l00];cbv) | refine WA ?_ ?_ | with_reducible intro hcc | refine WS ?_ | ((with_reducible refine hA.st [_,_,_,_,_,_,_] _ _ _ _ ⟨?_,fun ds hds=>?_⟩);rotate_left;subst hds;cbv) | (refine hA.RowE hi q1 ?_;cbv) | refine WK hA hP ?_ | ((with_reducible show A.call _ _ _ _ false _ _ _ _);refine callK_no hA (.bool false) ?_;cbv) | refine W6 ?_ | ((with_reducible first | refine hA.Len fun z hz hb=>?_ | refine hA.Off fun b hb=>?_ | refine hA.Plus fun b hb=>?_ | refine hA.gb _ _ fun vb hvb=>?_);cbv) | ((with_reducible first | refine hA.Sto ?_ fun ds hds=>?_ | refine hA.Sapp ?_ fun sl hsl=>?_);rotate_left;cbv) | refine WL ?_ | fail
  all_goals try simp only [hA.sm,n_cast] at *
  all_goals first | omega | trivial | rfl | exact gg1 _ | exact gg2 _ | exact gg3 _ | exact gg4 _ | exact gg5 _ | exact gg6 _ _ | (simp;done) | (rw [hr2];done)
 case true=>
 rw [if_neg (by simp)] at hres
 by_cases hl0:l<0
 ·have v0:A.lt l 0=true:=by rw [hA.lt];exact decide_eq_true hl0
  have hr2:res= -1:=by rw [hres,if_pos hl0]
  clear hres hct he hl hr hu
  cbv
  repeat' first | exact W1 | (simp only [lt0,lt1,k2,k3,k4,k5,k6,k7,k8,k10,l00,v0];cbv) | refine WA ?_ ?_ | with_reducible intro hcc | refine WS ?_ | ((with_reducible refine hA.st [_,_,_,_,_,_,_] _ _ _ _ ⟨?_,fun ds hds=>?_⟩);rotate_left;subst hds;cbv) | (refine hA.RowE hi q1 ?_;cbv) | refine WK hA hP ?_ | ((with_reducible show A.call _ _ _ _ false _ _ _ _);refine callK_no hA (.bool false) ?_;cbv) | refine W6 ?_ | ((with_reducible first | refine hA.Len fun z hz hb=>?_ | refine hA.Off fun b hb=>?_ | refine hA.Plus fun b hb=>?_ | refine hA.gb _ _ fun vb hvb=>?_);cbv) | ((with_reducible first | refine hA.Sto ?_ fun ds hds=>?_ | refine hA.Sapp ?_ fun sl hsl=>?_);rotate_left;cbv) | refine WL ?_ | fail
  all_goals try simp only [hA.sm,n_cast] at *
  all_goals first | omega | trivial | rfl | exact gg1 _ | exact gg2 _ | exact gg3 _ | exact gg4 _ | exact gg5 _ | exact gg6 _ _ | (simp;done) | (rw [hr2];done)
 rw [if_neg hl0] at hres
 have v0:A.lt l 0=false:=by rw [hA.lt];exact decide_eq_false hl0
 rw [if_neg (by omega)] at hres
 obtain ⟨s1,hs1⟩: ∃z,z=A.add env l:=⟨_,rfl⟩
 have hs1':s1=env+l:=by rw [hs1,hA.add]
 have h31:=ok158 Ex x hx hxl s1
 obtain ⟨ex,hex⟩: ∃b,b=exOk Ex s1:=⟨_,rfl⟩
 rw [<-hex] at h31
 rw [hs1'] at hex
 have hres:res=if ex=false then-1 else if 200<env+l then-1 else l:=by
  rw [hres,ndS]
  simp only [Int.reduceEq,if_true,if_false,<-hex,true_and,false_and,and_true,or_true,true_or,or_false,false_or,Bool.false_eq_true,gt_iff_lt,ne_eq,not_true_eq_false,not_false_eq_true]
 cases ex
 ·rw [if_pos rfl] at hres
  clear hct hu
  cbv
  repeat' first | exact W1 | (simp only [lt0,lt1,k2,k3,k4,k5,k6,k7,k8,k10,l00,v0,<-hs1];cbv) | refine WA ?_ ?_ | with_reducible intro hcc | refine WS ?_ | ((with_reducible refine hA.st [_,_,_,_,_,_,_] _ _ _ _ ⟨?_,fun ds hds=>?_⟩);rotate_left;subst hds;cbv) | (refine hA.RowE hi q1 ?_;cbv) | refine WK hA hP ?_ | ((with_reducible show A.call _ _ _ _ false _ _ _ _);refine callK_no hA (.bool false) ?_;cbv) | refine W6 ?_ | ((with_reducible first | refine hA.Len fun z hz hb=>?_ | refine hA.Off fun b hb=>?_ | refine hA.Plus fun b hb=>?_ | refine hA.gb _ _ fun vb hvb=>?_);cbv) | ((with_reducible first | refine hA.Sto ?_ fun ds hds=>?_ | refine hA.Sapp ?_ fun sl hsl=>?_);rotate_left;cbv) | refine WL ?_ | fail
  all_goals try simp only [hA.sm,n_cast] at *
  all_goals first | omega | trivial | rfl | exact gg1 _ | exact gg2 _ | exact gg3 _ | exact gg4 _ | exact gg5 _ | exact gg6 _ _ | (simp;done) | (rw [hres];done)
 ·rw [if_neg (by simp)] at hres
  clear hct hu
  have hew:=hs1
  have hew2:=hs1'
  rw [<-hew2] at hres
  by_cases h200:200<s1
  ·have vw:A.lt 200 s1=true:=by rw [hA.lt];exact decide_eq_true h200
   rw [if_pos h200] at hres
   cbv
   repeat' first | exact W1 | (simp only [lt0,lt1,k2,k3,k4,k5,k6,k7,k8,k10,l00,v0,<-hs1,<-hew,vw];cbv) | refine WA ?_ ?_ | with_reducible intro hcc | refine WS ?_ | ((with_reducible refine hA.st [_,_,_,_,_,_,_] _ _ _ _ ⟨?_,fun ds hds=>?_⟩);rotate_left;subst hds;cbv) | (refine hA.RowE hi q1 ?_;cbv) | refine WK hA hP ?_ | ((with_reducible show A.call _ _ _ _ false _ _ _ _);refine callK_no hA (.bool false) ?_;cbv) | refine W6 ?_ | ((with_reducible first | refine hA.Len fun z hz hb=>?_ | refine hA.Off fun b hb=>?_ | refine hA.Plus fun b hb=>?_ | refine hA.gb _ _ fun vb hvb=>?_);cbv) | ((with_reducible first | refine hA.Sto ?_ fun ds hds=>?_ | refine hA.Sapp ?_ fun sl hsl=>?_);rotate_left;cbv) | refine WL ?_ | fail
   all_goals try simp only [hA.sm,n_cast] at *
   all_goals first | omega | trivial | rfl | exact gg1 _ | exact gg2 _ | exact gg3 _ | exact gg4 _ | exact gg5 _ | exact gg6 _ _ | (simp;done) | (rw [hres];done)
  ·have vw:A.lt 200 s1=false:=by rw [hA.lt];exact decide_eq_false h200
   rw [if_neg h200] at hres
   cbv
   repeat' first | exact W1 | (simp only [lt0,lt1,k2,k3,k4,k5,k6,k7,k8,k10,l00,v0,<-hs1,<-hew,vw];cbv) | refine WA ?_ ?_ | with_reducible intro hcc | refine WS ?_ | ((with_reducible refine hA.st [_,_,_,_,_,_,_] _ _ _ _ ⟨?_,fun ds hds=>?_⟩);rotate_left;subst hds;cbv) | (refine hA.RowE hi q1 ?_;cbv) | refine WK hA hP ?_ | ((with_reducible show A.call _ _ _ _ false _ _ _ _);refine callK_no hA (.bool false) ?_;cbv) | refine W6 ?_ | ((with_reducible first | refine hA.Len fun z hz hb=>?_ | refine hA.Off fun b hb=>?_ | refine hA.Plus fun b hb=>?_ | refine hA.gb _ _ fun vb hvb=>?_);cbv) | ((with_reducible first | refine hA.Sto ?_ fun ds hds=>?_ | refine hA.Sapp ?_ fun sl hsl=>?_);rotate_left;cbv) | refine WL ?_ | fail
   all_goals try simp only [hA.sm,n_cast] at *
   all_goals first | omega | trivial | rfl | exact gg1 _ | exact gg2 _ | exact gg3 _ | exact gg4 _ | exact gg5 _ | exact gg6 _ _ | (simp;done) | (rw [hres];done))
theorem ok243_4 (T M:Int) (Ex:List (Int×Int)) (Exs:List (List (Int×Int))) (L R:Int) (x y es xt:List (List E)) (hx:x=Ex.map orow) (hy:y=Exs.map orr) (ts:List Tb) (hxt:xt=ts.map tbr) (hxl:x.length<=1048576) (hyl:y.length<=1048576) (hel: ∀e∈Exs,e.length<=1048576)
  (i env l r:Int) (hi:0<=i/\i<es.length) (q1:es.getD i.toNat []= [E.int 4,E.int T,E.int M,E.sl x,E.sl y,E.int L,E.int R]) (he:0<=env/\env<=200) (hl: -1<=l/\l<=200) (hr: -1<=r/\r<=200) (hct: ∀t:Int,0<=t->t<ts.length->0<=colsOf ts t/\colsOf ts t<=1000)
  (hl1:Plain Tryz.prog 80 [.agg [.e (.sl es)],.agg [.e (.sl xt)],.int L,.int env] (.int l))
  :Plain Tryz.prog 80 [.agg [.e (.sl es)],.agg [.e (.sl xt)],.int i,.int env] (.int (if usedS ⟨4,T,M,Ex,Exs,L,R⟩ ts.length=false then-1 else if l<0 then-1 else if 0<0 then-1 else ndS ⟨4,T,M,Ex,Exs,L,R⟩ (colsOf ts) env l 0)):=okOf mixed p80 fun A P hA hP=>(by
 obtain ⟨zy,hzy⟩: ∃z:Int,z=y.length:=⟨_,rfl⟩
 have hyE:y.length=Exs.length:=by rw [hy];simp
 have hxT:xt.length=ts.length:=by rw [hxt];simp
 have h289:=ok156 4 T M Ex Exs L R x y xt hx hy
 rw [hxT] at h289
 have h288:Plain Tryz.prog 155 [.int 4] (.int 1):=ok155 4
 obtain ⟨u,hu⟩: ∃b,b=usedS ⟨4,T,M,Ex,Exs,L,R⟩ ts.length:=⟨_,rfl⟩
 rw [<-hu] at h289 ⊢
 obtain ⟨res,hres⟩: ∃v:Int,v=if u=false then-1 else if l<0 then-1 else if 0<0 then-1 else ndS ⟨4,T,M,Ex,Exs,L,R⟩ (colsOf ts) env l 0:=⟨_,rfl⟩
 rw [<-hres]
 have lt0:A.lt 0 1=true:=hA.lt _ _
 have lt1:A.lt 1 1=false:=hA.lt _ _
 have k2:A.eq 4 2=false:=hA.eq _ _
 have k3:A.eq 4 3=false:=hA.eq _ _
 have k4:A.eq 4 4=true:=hA.eq _ _
 have k5:A.eq 4 5=false:=hA.eq _ _
 have k6:A.eq 4 6=false:=hA.eq _ _
 have k7:A.eq 4 7=false:=hA.eq _ _
 have k8:A.eq 4 8=false:=hA.eq _ _
 have k10:A.eq 4 10=false:=hA.eq _ _
 have l00:A.lt 0 0=false:=hA.lt _ _
 cases u
 case false=>
  have hr2:res= -1:=by rw [hres,if_pos rfl]
  clear hres hct he hl hr hu
  cbv
  repeat' first | exact W1 | (simp only [lt0,lt1,k2,k3,k4,k5,k6,k7,k8,k10,l00];cbv) | refine WA ?_ ?_ | with_reducible intro hcc | refine WS ?_ | ((with_reducible refine hA.st [_,_,_,_,_,_,_] _ _ _ _ ⟨?_,fun ds hds=>?_⟩);rotate_left;subst hds;cbv) | (refine hA.RowE hi q1 ?_;cbv) | refine WK hA hP ?_ | ((with_reducible show A.call _ _ _ _ false _ _ _ _);refine callK_no hA (.bool false) ?_;cbv) | refine W6 ?_ | ((with_reducible first | refine hA.Len fun z hz hb=>?_ | refine hA.Off fun b hb=>?_ | refine hA.Plus fun b hb=>?_ | refine hA.gb _ _ fun vb hvb=>?_);cbv) | ((with_reducible first | refine hA.Sto ?_ fun ds hds=>?_ | refine hA.Sapp ?_ fun sl hsl=>?_);rotate_left;cbv) | refine WL ?_ | fail
  all_goals try simp only [hA.sm,n_cast] at *
  all_goals first | omega | trivial | rfl | exact gg1 _ | exact gg2 _ | exact gg3 _ | exact gg4 _ | exact gg5 _ | exact gg6 _ _ | (simp;done) | (rw [hr2];done)
 case true=>
 rw [if_neg (by simp)] at hres
 by_cases hl0:l<0
 ·have v0:A.lt l 0=true:=by rw [hA.lt];exact decide_eq_true hl0
  have hr2:res= -1:=by rw [hres,if_pos hl0]
  clear hres hct he hl hr hu
  cbv
  repeat' first | exact W1 | (simp only [lt0,lt1,k2,k3,k4,k5,k6,k7,k8,k10,l00,v0];cbv) | refine WA ?_ ?_ | with_reducible intro hcc | refine WS ?_ | ((with_reducible refine hA.st [_,_,_,_,_,_,_] _ _ _ _ ⟨?_,fun ds hds=>?_⟩);rotate_left;subst hds;cbv) | (refine hA.RowE hi q1 ?_;cbv) | refine WK hA hP ?_ | ((with_reducible show A.call _ _ _ _ false _ _ _ _);refine callK_no hA (.bool false) ?_;cbv) | refine W6 ?_ | ((with_reducible first | refine hA.Len fun z hz hb=>?_ | refine hA.Off fun b hb=>?_ | refine hA.Plus fun b hb=>?_ | refine hA.gb _ _ fun vb hvb=>?_);cbv) | ((with_reducible first | refine hA.Sto ?_ fun ds hds=>?_ | refine hA.Sapp ?_ fun sl hsl=>?_);rotate_left;cbv) | refine WL ?_ | fail
  all_goals try simp only [hA.sm,n_cast] at *
  all_goals first | omega | trivial | rfl | exact gg1 _ | exact gg2 _ | exact gg3 _ | exact gg4 _ | exact gg5 _ | exact gg6 _ _ | (simp;done) | (rw [hr2];done)
 rw [if_neg hl0] at hres
 have v0:A.lt l 0=false:=by rw [hA.lt];exact decide_eq_false hl0
 rw [if_neg (by omega)] at hres
 obtain ⟨s1,hs1⟩: ∃z,z=A.add env l:=⟨_,rfl⟩
 have hs1':s1=env+l:=by rw [hs1,hA.add]
 obtain ⟨al,hal⟩: ∃b,b=Exs.all fun e=>exOk e s1:=⟨_,rfl⟩
 have hres:res=if al=false then-1 else if 200<env+zy then-1 else zy:=by
  rw [hres,ndS]
  simp only [Int.reduceEq,if_true,if_false,<-hs1',<-hal,<-hyE,<-hzy,true_and,false_and,and_true,or_true,true_or,or_false,false_or,Bool.false_eq_true,gt_iff_lt,ne_eq,not_true_eq_false,not_false_eq_true]
 clear hct hu
 cbv
 repeat' first | exact W1 | (simp only [lt0,lt1,k2,k3,k4,k5,k6,k7,k8,k10,l00,v0,<-hs1];cbv) | refine WA ?_ ?_ | with_reducible intro hcc | refine WS ?_ | ((with_reducible refine hA.st [_,_,_,_,_,_,_] _ _ _ _ ⟨?_,fun ds hds=>?_⟩);rotate_left;subst hds;cbv) | (refine hA.RowE hi q1 ?_;cbv) | refine WK hA hP ?_ | ((with_reducible show A.call _ _ _ _ false _ _ _ _);refine callK_no hA (.bool false) ?_;cbv) | refine W6 ?_ | ((with_reducible first | refine hA.Len fun z hz hb=>?_ | refine hA.Off fun b hb=>?_ | refine hA.Plus fun b hb=>?_ | refine hA.gb _ _ fun vb hvb=>?_);cbv) | ((with_reducible first | refine hA.Sto ?_ fun ds hds=>?_ | refine hA.Sapp ?_ fun sl hsl=>?_);rotate_left;cbv) | refine WL ?_ | fail
 all_goals try simp only [hA.sm,n_cast] at *
 all_goals try omega
 have k5:A.eq 4 5=false:=hA.eq _ _
 have k6:A.eq 4 6=false:=hA.eq _ _
 have k7:A.eq 4 7=false:=hA.eq _ _
 have k8:A.eq 4 8=false:=hA.eq _ _
 have k10:A.eq 4 10=false:=hA.eq _ _
 have hs1:s1=A.add env l:=by rw [hA.add];exact hs1'
 refine hA.loopI (fun m s=> ∃(k:Int),0<=k/\m+k=y.length/\(∀(j:Nat) e,(j:Int)<k->Exs[j]?=some e->exOk e s1=true)/\s=⟨[(13,.int k),(9,.ref 2 0),(3,.int env),(10,.int l),(11,.int 0),(8,.int 0)], [.box [.e (.sl es)],.box [.e (.sl xt)],.box [.int 4,.int T,.int M,.e (.sl x),.e (.sl y),.int L,.int R]]⟩) y.length _
  (Weak.keep (env':= [(13,.int 0),(9,.ref 2 0),(3,.int env),(10,.int l),(11,.int 0),(8,.int 0)]) ⟨rfl,rfl,rfl,rfl,rfl,rfl,trivial⟩) ⟨0,by omega,by omega,fun j e h=>by omega,rfl⟩ ?_
 rintro m s Kk ⟨k,i0,i1,i2,rfl⟩ hKk
 by_cases hk:(0:Int)<=k/\k<y.length
 ·obtain ⟨e,q1,q2⟩:=ors_at hy hk
  obtain ⟨xe,hxe⟩: ∃x,x=e.map orow:=⟨_,rfl⟩
  have q1:y.getD k.toNat []= [E.sl xe]:=q1.trans (by rw [hxe])
  have h31:=ok158 e xe hxe (by rw [hxe,List.length_map];exact hel _ (List.mem_of_getElem? q2)) s1
  obtain ⟨eb,heb⟩: ∃b,b=exOk e s1:=⟨_,rfl⟩
  rw [<-heb] at h31
  have f3:eb=false->res= -1:=fun h=>by
   rw [hres,if_pos]
   rw [hal,Bool.eq_false_iff]
   intro h2
   have:=List.all_eq_true.1 h2 e (List.mem_of_getElem? q2)
   rw [<-heb,h] at this;cases this
  have hKk2: ∀env':List (Nat×D),eb=true->subL [(13,.int (k+1)),(9,.ref 2 0),(3,.int env),(10,.int l),(11,.int 0),(8,.int 0)] env'->Kk ⟨env', [.box [.e (.sl es)],.box [.e (.sl xt)],.box [.int 4,.int T,.int M,.e (.sl x),.e (.sl y),.int L,.int R]]⟩:=fun env' t1 t2=>
   hKk _ (m-1) _ (by omega) (Weak.keep t2) ⟨k+1,by omega,by omega,fun j e' h1 h2=>by
    by_cases hj:(j:Int)<k
    ·exact i2 j e' hj h2
    ·have:j=k.toNat:=by omega
     subst this
     rw [q2] at h2;cases h2
     rw [<-heb];exact t1,rfl⟩
  have e8:A.lt k zy=true:=by rw [hA.lt];exact decide_eq_true (by omega)
  clear hKk hres heb i2 hal
  cases eb
  all_goals
   cbv
   repeat' first | exact W1 | (simp only [<-hs1,e8];cbv) | refine WA ?_ ?_ | with_reducible intro hcc | refine WS ?_ | refine WK hA hP ?_ | (refine hA.LenE hzy fun hb=>?_;cbv) | (refine hA.RowE hk q1 ?_;cbv) | refine W6 ?_ | ((with_reducible first | refine hA.Len fun z hz hb=>?_ | refine hA.Off fun b hb=>?_ | refine hA.Plus fun b hb=>?_ | refine hA.gb _ _ fun vb hvb=>?_);cbv) | ((with_reducible first | refine hA.Sto ?_ fun ds hds=>?_ | refine hA.Sapp ?_ fun sl hsl=>?_);rotate_left;cbv) | refine WL ?_ | fail
   all_goals try simp only [hA.sm,n_cast] at *
   all_goals first
    | omega
    | (rw [f3 rfl];done)
    | (rw [f3 trivial];done)
    | exact hKk2 _ (by first | exact rfl | exact trivial) ⟨rfl,rfl,rfl,rfl,rfl,rfl,trivial⟩
 ·have ha:al=true:=by
   rw [hal]
   exact all_drop fun j a h=>i2 j a (by
    have:=(List.getElem?_eq_some_iff.1 h).1
    omega) h
  rw [ha,if_neg (by simp)] at hres
  have e8:A.lt k zy=false:=by rw [hA.lt];exact decide_eq_false (by omega)
  clear hKk i2 hal ha
  obtain ⟨ew,hew⟩: ∃z,z=A.add env zy:=⟨_,rfl⟩
  have hew2:ew=env+zy:=by rw [hew,hA.add]
  rw [<-hew2] at hres
  obtain ⟨bw,hbw⟩: ∃b,b=decide (200<ew):=⟨_,rfl⟩
  have vw:A.lt 200 ew=bw:=by rw [hA.lt,hbw]
  have hres:res=if bw=true then-1 else zy:=by rw [hres,hbw];simp
  clear hbw
  cases bw
  all_goals
   cbv
   repeat' first | exact W1 | (simp only [e8,k5,k6,k7,k8,k10,<-hew,vw];cbv) | refine WA ?_ ?_ | with_reducible intro hcc | refine WS ?_ | (refine hA.LenE hzy fun hb=>?_;cbv) | refine W6 ?_ | ((with_reducible first | refine hA.Len fun z hz hb=>?_ | refine hA.Off fun b hb=>?_ | refine hA.Plus fun b hb=>?_ | refine hA.gb _ _ fun vb hvb=>?_);cbv) | ((with_reducible first | refine hA.Sto ?_ fun ds hds=>?_ | refine hA.Sapp ?_ fun sl hsl=>?_);rotate_left;cbv) | refine WL ?_ | fail
   all_goals try simp only [hA.sm,n_cast] at *
   all_goals first | omega | trivial | (rw [hres];done) | (rw [hres];rfl))
theorem ok243_5 (T M:Int) (Ex:List (Int×Int)) (Exs:List (List (Int×Int))) (L R:Int) (x y es xt:List (List E)) (hx:x=Ex.map orow) (hy:y=Exs.map orr) (ts:List Tb) (hxt:xt=ts.map tbr) (hxl:x.length<=1048576) (hyl:y.length<=1048576) (hel: ∀e∈Exs,e.length<=1048576)
  (i env l r:Int) (hi:0<=i/\i<es.length) (q1:es.getD i.toNat []= [E.int 5,E.int T,E.int M,E.sl x,E.sl y,E.int L,E.int R]) (he:0<=env/\env<=200) (hl: -1<=l/\l<=200) (hr: -1<=r/\r<=200) (hct: ∀t:Int,0<=t->t<ts.length->0<=colsOf ts t/\colsOf ts t<=1000)
  (hl1:Plain Tryz.prog 80 [.agg [.e (.sl es)],.agg [.e (.sl xt)],.int L,.int env] (.int l))
  (hr1:usedS ⟨5,T,M,Ex,Exs,L,R⟩ ts.length=true->0<=l->Plain Tryz.prog 80 [.agg [.e (.sl es)],.agg [.e (.sl xt)],.int R,.int (env)] (.int r))
  :Plain Tryz.prog 80 [.agg [.e (.sl es)],.agg [.e (.sl xt)],.int i,.int env] (.int (if usedS ⟨5,T,M,Ex,Exs,L,R⟩ ts.length=false then-1 else if l<0 then-1 else if r<0 then-1 else ndS ⟨5,T,M,Ex,Exs,L,R⟩ (colsOf ts) env l r)):=okOf mixed p80 fun A P hA hP=>(by
 obtain ⟨zy,hzy⟩: ∃z:Int,z=y.length:=⟨_,rfl⟩
 have hyE:y.length=Exs.length:=by rw [hy];simp
 have hxT:xt.length=ts.length:=by rw [hxt];simp
 have h289:=ok156 5 T M Ex Exs L R x y xt hx hy
 rw [hxT] at h289
 have h288:Plain Tryz.prog 155 [.int 5] (.int 2):=ok155 5
 obtain ⟨u,hu⟩: ∃b,b=usedS ⟨5,T,M,Ex,Exs,L,R⟩ ts.length:=⟨_,rfl⟩
 rw [<-hu] at h289 ⊢
 rw [<-hu] at hr1
 obtain ⟨res,hres⟩: ∃v:Int,v=if u=false then-1 else if l<0 then-1 else if r<0 then-1 else ndS ⟨5,T,M,Ex,Exs,L,R⟩ (colsOf ts) env l r:=⟨_,rfl⟩
 rw [<-hres]
 have lt0:A.lt 0 2=true:=hA.lt _ _
 have lt1:A.lt 1 2=true:=hA.lt _ _
 have k2:A.eq 5 2=false:=hA.eq _ _
 have k3:A.eq 5 3=false:=hA.eq _ _
 have k4:A.eq 5 4=false:=hA.eq _ _
 have k5:A.eq 5 5=true:=hA.eq _ _
 have k6:A.eq 5 6=false:=hA.eq _ _
 have k7:A.eq 5 7=false:=hA.eq _ _
 have k8:A.eq 5 8=false:=hA.eq _ _
 have k10:A.eq 5 10=false:=hA.eq _ _
 have l00:A.lt 0 0=false:=hA.lt _ _
 cases u
 case false=>
  have hr2:res= -1:=by rw [hres,if_pos rfl]
  clear hres hct he hl hr hu hr1
  cbv
  repeat' first | exact W1 | (simp only [lt0,lt1,k2,k3,k4,k5,k6,k7,k8,k10,l00];cbv) | refine WA ?_ ?_ | with_reducible intro hcc | refine WS ?_ | ((with_reducible refine hA.st [_,_,_,_,_,_,_] _ _ _ _ ⟨?_,fun ds hds=>?_⟩);rotate_left;subst hds;cbv) | (refine hA.RowE hi q1 ?_;cbv) | refine WK hA hP ?_ | ((with_reducible show A.call _ _ _ _ false _ _ _ _);refine callK_no hA (.bool false) ?_;cbv) | refine W6 ?_ | ((with_reducible first | refine hA.Len fun z hz hb=>?_ | refine hA.Off fun b hb=>?_ | refine hA.Plus fun b hb=>?_ | refine hA.gb _ _ fun vb hvb=>?_);cbv) | ((with_reducible first | refine hA.Sto ?_ fun ds hds=>?_ | refine hA.Sapp ?_ fun sl hsl=>?_);rotate_left;cbv) | refine WL ?_ | fail
  all_goals try simp only [hA.sm,n_cast] at *
  all_goals first | omega | trivial | rfl | exact gg1 _ | exact gg2 _ | exact gg3 _ | exact gg4 _ | exact gg5 _ | exact gg6 _ _ | (simp;done) | (rw [hr2];done)
 case true=>
 rw [if_neg (by simp)] at hres
 by_cases hl0:l<0
 ·have v0:A.lt l 0=true:=by rw [hA.lt];exact decide_eq_true hl0
  have hr2:res= -1:=by rw [hres,if_pos hl0]
  clear hres hct he hl hr hu hr1
  cbv
  repeat' first | exact W1 | (simp only [lt0,lt1,k2,k3,k4,k5,k6,k7,k8,k10,l00,v0];cbv) | refine WA ?_ ?_ | with_reducible intro hcc | refine WS ?_ | ((with_reducible refine hA.st [_,_,_,_,_,_,_] _ _ _ _ ⟨?_,fun ds hds=>?_⟩);rotate_left;subst hds;cbv) | (refine hA.RowE hi q1 ?_;cbv) | refine WK hA hP ?_ | ((with_reducible show A.call _ _ _ _ false _ _ _ _);refine callK_no hA (.bool false) ?_;cbv) | refine W6 ?_ | ((with_reducible first | refine hA.Len fun z hz hb=>?_ | refine hA.Off fun b hb=>?_ | refine hA.Plus fun b hb=>?_ | refine hA.gb _ _ fun vb hvb=>?_);cbv) | ((with_reducible first | refine hA.Sto ?_ fun ds hds=>?_ | refine hA.Sapp ?_ fun sl hsl=>?_);rotate_left;cbv) | refine WL ?_ | fail
  all_goals try simp only [hA.sm,n_cast] at *
  all_goals first | omega | trivial | rfl | exact gg1 _ | exact gg2 _ | exact gg3 _ | exact gg4 _ | exact gg5 _ | exact gg6 _ _ | (simp;done) | (rw [hr2];done)
 rw [if_neg hl0] at hres
 have v0:A.lt l 0=false:=by rw [hA.lt];exact decide_eq_false hl0
 have hr1:=hr1 rfl (by omega)
 have h290:Plain Tryz.prog 157 [.int 5,.int env,.int l] (.int (env)):=ok157 5 env l (by omega)
 by_cases hr0:r<0
 ·have w0:A.lt r 0=true:=by rw [hA.lt];exact decide_eq_true hr0
  have hr2:res= -1:=by rw [hres,if_pos hr0]
  clear hres hct he hl hr hu
  cbv
  repeat' first | exact W1 | (simp only [lt0,lt1,k2,k3,k4,k5,k6,k7,k8,k10,l00,v0,w0];cbv) | refine WA ?_ ?_ | with_reducible intro hcc | refine WS ?_ | ((with_reducible refine hA.st [_,_,_,_,_,_,_] _ _ _ _ ⟨?_,fun ds hds=>?_⟩);rotate_left;subst hds;cbv) | (refine hA.RowE hi q1 ?_;cbv) | refine WK hA hP ?_ | ((with_reducible show A.call _ _ _ _ false _ _ _ _);refine callK_no hA (.bool false) ?_;cbv) | refine W6 ?_ | ((with_reducible first | refine hA.Len fun z hz hb=>?_ | refine hA.Off fun b hb=>?_ | refine hA.Plus fun b hb=>?_ | refine hA.gb _ _ fun vb hvb=>?_);cbv) | ((with_reducible first | refine hA.Sto ?_ fun ds hds=>?_ | refine hA.Sapp ?_ fun sl hsl=>?_);rotate_left;cbv) | refine WL ?_ | fail
  all_goals try simp only [hA.sm,n_cast] at *
  all_goals first | omega | trivial | rfl | exact gg1 _ | exact gg2 _ | exact gg3 _ | exact gg4 _ | exact gg5 _ | exact gg6 _ _ | (simp;done) | (rw [hr2];done)
 rw [if_neg hr0] at hres
 have w0:A.lt r 0=false:=by rw [hA.lt];exact decide_eq_false hr0
 obtain ⟨w,hw⟩: ∃z,z=A.add l r:=⟨_,rfl⟩
 have hw':w=l+r:=by rw [hw,hA.add]
 have hres:res=if 200<env+w then-1 else w:=by
  rw [hres,ndS,hw']
  simp only [Int.reduceEq,if_true,if_false,true_and,false_and,and_true,or_true,true_or,or_false,false_or,Bool.false_eq_true,gt_iff_lt,ne_eq,not_true_eq_false,not_false_eq_true]
 clear hct hu
 obtain ⟨ew,hew⟩: ∃z,z=A.add env w:=⟨_,rfl⟩
 have hew2:ew=env+w:=by rw [hew,hA.add]
 rw [<-hew2] at hres
 by_cases h200:200<ew
 ·have vw:A.lt 200 ew=true:=by rw [hA.lt];exact decide_eq_true h200
  rw [if_pos h200] at hres
  cbv
  repeat' first | exact W1 | (simp only [lt0,lt1,k2,k3,k4,k5,k6,k7,k8,k10,l00,v0,w0,<-hw,<-hew,vw];cbv) | refine WA ?_ ?_ | with_reducible intro hcc | refine WS ?_ | ((with_reducible refine hA.st [_,_,_,_,_,_,_] _ _ _ _ ⟨?_,fun ds hds=>?_⟩);rotate_left;subst hds;cbv) | (refine hA.RowE hi q1 ?_;cbv) | refine WK hA hP ?_ | ((with_reducible show A.call _ _ _ _ false _ _ _ _);refine callK_no hA (.bool false) ?_;cbv) | refine W6 ?_ | ((with_reducible first | refine hA.Len fun z hz hb=>?_ | refine hA.Off fun b hb=>?_ | refine hA.Plus fun b hb=>?_ | refine hA.gb _ _ fun vb hvb=>?_);cbv) | ((with_reducible first | refine hA.Sto ?_ fun ds hds=>?_ | refine hA.Sapp ?_ fun sl hsl=>?_);rotate_left;cbv) | refine WL ?_ | fail
  all_goals try simp only [hA.sm,n_cast] at *
  all_goals first | omega | trivial | rfl | exact gg1 _ | exact gg2 _ | exact gg3 _ | exact gg4 _ | exact gg5 _ | exact gg6 _ _ | (simp;done) | (rw [hres];done)
 ·have vw:A.lt 200 ew=false:=by rw [hA.lt];exact decide_eq_false h200
  rw [if_neg h200] at hres
  cbv
  repeat' first | exact W1 | (simp only [lt0,lt1,k2,k3,k4,k5,k6,k7,k8,k10,l00,v0,w0,<-hw,<-hew,vw];cbv) | refine WA ?_ ?_ | with_reducible intro hcc | refine WS ?_ | ((with_reducible refine hA.st [_,_,_,_,_,_,_] _ _ _ _ ⟨?_,fun ds hds=>?_⟩);rotate_left;subst hds;cbv) | (refine hA.RowE hi q1 ?_;cbv) | refine WK hA hP ?_ | ((with_reducible show A.call _ _ _ _ false _ _ _ _);refine callK_no hA (.bool false) ?_;cbv) | refine W6 ?_ | ((with_reducible first | refine hA.Len fun z hz hb=>?_ | refine hA.Off fun b hb=>?_ | refine hA.Plus fun b hb=>?_ | refine hA.gb _ _ fun vb hvb=>?_);cbv) | ((with_reducible first | refine hA.Sto ?_ fun ds hds=>?_ | refine hA.Sapp ?_ fun sl hsl=>?_);rotate_left;cbv) | refine WL ?_ | fail
  all_goals try simp only [hA.sm,n_cast] at *
  all_goals first | omega | trivial | rfl | exact gg1 _ | exact gg2 _ | exact gg3 _ | exact gg4 _ | exact gg5 _ | exact gg6 _ _ | (simp;done) | (rw [hres];done))
theorem ok243_6 (T M:Int) (Ex:List (Int×Int)) (Exs:List (List (Int×Int))) (L R:Int) (x y es xt:List (List E)) (hx:x=Ex.map orow) (hy:y=Exs.map orr) (ts:List Tb) (hxt:xt=ts.map tbr) (hxl:x.length<=1048576) (hyl:y.length<=1048576) (hel: ∀e∈Exs,e.length<=1048576)
  (i env l r:Int) (hi:0<=i/\i<es.length) (q1:es.getD i.toNat []= [E.int 6,E.int T,E.int M,E.sl x,E.sl y,E.int L,E.int R]) (he:0<=env/\env<=200) (hl: -1<=l/\l<=200) (hr: -1<=r/\r<=200) (hct: ∀t:Int,0<=t->t<ts.length->0<=colsOf ts t/\colsOf ts t<=1000)
  (hl1:Plain Tryz.prog 80 [.agg [.e (.sl es)],.agg [.e (.sl xt)],.int L,.int env] (.int l))
  (hr1:usedS ⟨6,T,M,Ex,Exs,L,R⟩ ts.length=true->0<=l->Plain Tryz.prog 80 [.agg [.e (.sl es)],.agg [.e (.sl xt)],.int R,.int (env+l)] (.int r))
  :Plain Tryz.prog 80 [.agg [.e (.sl es)],.agg [.e (.sl xt)],.int i,.int env] (.int (if usedS ⟨6,T,M,Ex,Exs,L,R⟩ ts.length=false then-1 else if l<0 then-1 else if r<0 then-1 else ndS ⟨6,T,M,Ex,Exs,L,R⟩ (colsOf ts) env l r)):=okOf mixed p80 fun A P hA hP=>(by
 obtain ⟨zy,hzy⟩: ∃z:Int,z=y.length:=⟨_,rfl⟩
 have hyE:y.length=Exs.length:=by rw [hy];simp
 have hxT:xt.length=ts.length:=by rw [hxt];simp
 have h289:=ok156 6 T M Ex Exs L R x y xt hx hy
 rw [hxT] at h289
 have h288:Plain Tryz.prog 155 [.int 6] (.int 2):=ok155 6
 obtain ⟨u,hu⟩: ∃b,b=usedS ⟨6,T,M,Ex,Exs,L,R⟩ ts.length:=⟨_,rfl⟩
 rw [<-hu] at h289 ⊢
 rw [<-hu] at hr1
 obtain ⟨res,hres⟩: ∃v:Int,v=if u=false then-1 else if l<0 then-1 else if r<0 then-1 else ndS ⟨6,T,M,Ex,Exs,L,R⟩ (colsOf ts) env l r:=⟨_,rfl⟩
 rw [<-hres]
 have lt0:A.lt 0 2=true:=hA.lt _ _
 have lt1:A.lt 1 2=true:=hA.lt _ _
 have k2:A.eq 6 2=false:=hA.eq _ _
 have k3:A.eq 6 3=false:=hA.eq _ _
 have k4:A.eq 6 4=false:=hA.eq _ _
 have k5:A.eq 6 5=false:=hA.eq _ _
 have k6:A.eq 6 6=true:=hA.eq _ _
 have k7:A.eq 6 7=false:=hA.eq _ _
 have k8:A.eq 6 8=false:=hA.eq _ _
 have k10:A.eq 6 10=false:=hA.eq _ _
 have l00:A.lt 0 0=false:=hA.lt _ _
 cases u
 case false=>
  have hr2:res= -1:=by rw [hres,if_pos rfl]
  clear hres hct he hl hr hu hr1
  cbv
  repeat' first | exact W1 | (simp only [lt0,lt1,k2,k3,k4,k5,k6,k7,k8,k10,l00];cbv) | refine WA ?_ ?_ | with_reducible intro hcc | refine WS ?_ | ((with_reducible refine hA.st [_,_,_,_,_,_,_] _ _ _ _ ⟨?_,fun ds hds=>?_⟩);rotate_left;subst hds;cbv) | (refine hA.RowE hi q1 ?_;cbv) | refine WK hA hP ?_ | ((with_reducible show A.call _ _ _ _ false _ _ _ _);refine callK_no hA (.bool false) ?_;cbv) | refine W6 ?_ | ((with_reducible first | refine hA.Len fun z hz hb=>?_ | refine hA.Off fun b hb=>?_ | refine hA.Plus fun b hb=>?_ | refine hA.gb _ _ fun vb hvb=>?_);cbv) | ((with_reducible first | refine hA.Sto ?_ fun ds hds=>?_ | refine hA.Sapp ?_ fun sl hsl=>?_);rotate_left;cbv) | refine WL ?_ | fail
  all_goals try simp only [hA.sm,n_cast] at *
  all_goals first | omega | trivial | rfl | exact gg1 _ | exact gg2 _ | exact gg3 _ | exact gg4 _ | exact gg5 _ | exact gg6 _ _ | (simp;done) | (rw [hr2];done)
 case true=>
 rw [if_neg (by simp)] at hres
 by_cases hl0:l<0
 ·have v0:A.lt l 0=true:=by rw [hA.lt];exact decide_eq_true hl0
  have hr2:res= -1:=by rw [hres,if_pos hl0]
  clear hres hct he hl hr hu hr1
  cbv
  repeat' first | exact W1 | (simp only [lt0,lt1,k2,k3,k4,k5,k6,k7,k8,k10,l00,v0];cbv) | refine WA ?_ ?_ | with_reducible intro hcc | refine WS ?_ | ((with_reducible refine hA.st [_,_,_,_,_,_,_] _ _ _ _ ⟨?_,fun ds hds=>?_⟩);rotate_left;subst hds;cbv) | (refine hA.RowE hi q1 ?_;cbv) | refine WK hA hP ?_ | ((with_reducible show A.call _ _ _ _ false _ _ _ _);refine callK_no hA (.bool false) ?_;cbv) | refine W6 ?_ | ((with_reducible first | refine hA.Len fun z hz hb=>?_ | refine hA.Off fun b hb=>?_ | refine hA.Plus fun b hb=>?_ | refine hA.gb _ _ fun vb hvb=>?_);cbv) | ((with_reducible first | refine hA.Sto ?_ fun ds hds=>?_ | refine hA.Sapp ?_ fun sl hsl=>?_);rotate_left;cbv) | refine WL ?_ | fail
  all_goals try simp only [hA.sm,n_cast] at *
  all_goals first | omega | trivial | rfl | exact gg1 _ | exact gg2 _ | exact gg3 _ | exact gg4 _ | exact gg5 _ | exact gg6 _ _ | (simp;done) | (rw [hr2];done)
 rw [if_neg hl0] at hres
 have v0:A.lt l 0=false:=by rw [hA.lt];exact decide_eq_false hl0
 have hr1:=hr1 rfl (by omega)
 have h290:Plain Tryz.prog 157 [.int 6,.int env,.int l] (.int (env+l)):=ok157 6 env l (by omega)
 obtain ⟨e2,he2⟩: ∃z,z=env+l:=⟨_,rfl⟩
 rw [<-he2] at hr1 h290
 by_cases hr0:r<0
 ·have w0:A.lt r 0=true:=by rw [hA.lt];exact decide_eq_true hr0
  have hr2:res= -1:=by rw [hres,if_pos hr0]
  clear hres hct he hl hr hu
  cbv
  repeat' first | exact W1 | (simp only [lt0,lt1,k2,k3,k4,k5,k6,k7,k8,k10,l00,v0,w0];cbv) | refine WA ?_ ?_ | with_reducible intro hcc | refine WS ?_ | ((with_reducible refine hA.st [_,_,_,_,_,_,_] _ _ _ _ ⟨?_,fun ds hds=>?_⟩);rotate_left;subst hds;cbv) | (refine hA.RowE hi q1 ?_;cbv) | refine WK hA hP ?_ | ((with_reducible show A.call _ _ _ _ false _ _ _ _);refine callK_no hA (.bool false) ?_;cbv) | refine W6 ?_ | ((with_reducible first | refine hA.Len fun z hz hb=>?_ | refine hA.Off fun b hb=>?_ | refine hA.Plus fun b hb=>?_ | refine hA.gb _ _ fun vb hvb=>?_);cbv) | ((with_reducible first | refine hA.Sto ?_ fun ds hds=>?_ | refine hA.Sapp ?_ fun sl hsl=>?_);rotate_left;cbv) | refine WL ?_ | fail
  all_goals try simp only [hA.sm,n_cast] at *
  all_goals first | omega | trivial | rfl | exact gg1 _ | exact gg2 _ | exact gg3 _ | exact gg4 _ | exact gg5 _ | exact gg6 _ _ | (simp;done) | (rw [hr2];done)
 rw [if_neg hr0] at hres
 have w0:A.lt r 0=false:=by rw [hA.lt];exact decide_eq_false hr0
 obtain ⟨w,hw⟩: ∃z,z=A.add l r:=⟨_,rfl⟩
 have hw':w=l+r:=by rw [hw,hA.add]
 have hres:res=if 200<env+w then-1 else w:=by
  rw [hres,ndS,hw']
  simp only [Int.reduceEq,if_true,if_false,true_and,false_and,and_true,or_true,true_or,or_false,false_or,Bool.false_eq_true,gt_iff_lt,ne_eq,not_true_eq_false,not_false_eq_true]
 clear hct hu
 obtain ⟨ew,hew⟩: ∃z,z=A.add env w:=⟨_,rfl⟩
 have hew2:ew=env+w:=by rw [hew,hA.add]
 rw [<-hew2] at hres
 by_cases h200:200<ew
 ·have vw:A.lt 200 ew=true:=by rw [hA.lt];exact decide_eq_true h200
  rw [if_pos h200] at hres
  cbv
  repeat' first | exact W1 | (simp only [lt0,lt1,k2,k3,k4,k5,k6,k7,k8,k10,l00,v0,w0,<-hw,<-hew,vw];cbv) | refine WA ?_ ?_ | with_reducible intro hcc | refine WS ?_ | ((with_reducible refine hA.st [_,_,_,_,_,_,_] _ _ _ _ ⟨?_,fun ds hds=>?_⟩);rotate_left;subst hds;cbv) | (refine hA.RowE hi q1 ?_;cbv) | refine WK hA hP ?_ | ((with_reducible show A.call _ _ _ _ false _ _ _ _);refine callK_no hA (.bool false) ?_;cbv) | refine W6 ?_ | ((with_reducible first | refine hA.Len fun z hz hb=>?_ | refine hA.Off fun b hb=>?_ | refine hA.Plus fun b hb=>?_ | refine hA.gb _ _ fun vb hvb=>?_);cbv) | ((with_reducible first | refine hA.Sto ?_ fun ds hds=>?_ | refine hA.Sapp ?_ fun sl hsl=>?_);rotate_left;cbv) | refine WL ?_ | fail
  all_goals try simp only [hA.sm,n_cast] at *
  all_goals first | omega | trivial | rfl | exact gg1 _ | exact gg2 _ | exact gg3 _ | exact gg4 _ | exact gg5 _ | exact gg6 _ _ | (simp;done) | (rw [hres];done)
 ·have vw:A.lt 200 ew=false:=by rw [hA.lt];exact decide_eq_false h200
  rw [if_neg h200] at hres
  cbv
  repeat' first | exact W1 | (simp only [lt0,lt1,k2,k3,k4,k5,k6,k7,k8,k10,l00,v0,w0,<-hw,<-hew,vw];cbv) | refine WA ?_ ?_ | with_reducible intro hcc | refine WS ?_ | ((with_reducible refine hA.st [_,_,_,_,_,_,_] _ _ _ _ ⟨?_,fun ds hds=>?_⟩);rotate_left;subst hds;cbv) | (refine hA.RowE hi q1 ?_;cbv) | refine WK hA hP ?_ | ((with_reducible show A.call _ _ _ _ false _ _ _ _);refine callK_no hA (.bool false) ?_;cbv) | refine W6 ?_ | ((with_reducible first | refine hA.Len fun z hz hb=>?_ | refine hA.Off fun b hb=>?_ | refine hA.Plus fun b hb=>?_ | refine hA.gb _ _ fun vb hvb=>?_);cbv) | ((with_reducible first | refine hA.Sto ?_ fun ds hds=>?_ | refine hA.Sapp ?_ fun sl hsl=>?_);rotate_left;cbv) | refine WL ?_ | fail
  all_goals try simp only [hA.sm,n_cast] at *
  all_goals first | omega | trivial | rfl | exact gg1 _ | exact gg2 _ | exact gg3 _ | exact gg4 _ | exact gg5 _ | exact gg6 _ _ | (simp;done) | (rw [hres];done))
theorem ok243_7 (T M:Int) (Ex:List (Int×Int)) (Exs:List (List (Int×Int))) (L R:Int) (x y es xt:List (List E)) (hx:x=Ex.map orow) (hy:y=Exs.map orr) (ts:List Tb) (hxt:xt=ts.map tbr) (hxl:x.length<=1048576) (hyl:y.length<=1048576) (hel: ∀e∈Exs,e.length<=1048576)
  (i env l r:Int) (hi:0<=i/\i<es.length) (q1:es.getD i.toNat []= [E.int 7,E.int T,E.int M,E.sl x,E.sl y,E.int L,E.int R]) (he:0<=env/\env<=200) (hl: -1<=l/\l<=200) (hr: -1<=r/\r<=200) (hct: ∀t:Int,0<=t->t<ts.length->0<=colsOf ts t/\colsOf ts t<=1000)
  (hl1:Plain Tryz.prog 80 [.agg [.e (.sl es)],.agg [.e (.sl xt)],.int L,.int env] (.int l))
  (hr1:usedS ⟨7,T,M,Ex,Exs,L,R⟩ ts.length=true->0<=l->Plain Tryz.prog 80 [.agg [.e (.sl es)],.agg [.e (.sl xt)],.int R,.int (env+l)] (.int r))
  :Plain Tryz.prog 80 [.agg [.e (.sl es)],.agg [.e (.sl xt)],.int i,.int env] (.int (if usedS ⟨7,T,M,Ex,Exs,L,R⟩ ts.length=false then-1 else if l<0 then-1 else if r<0 then-1 else ndS ⟨7,T,M,Ex,Exs,L,R⟩ (colsOf ts) env l r)):=okOf mixed p80 fun A P hA hP=>(by
 obtain ⟨zy,hzy⟩: ∃z:Int,z=y.length:=⟨_,rfl⟩
 have hyE:y.length=Exs.length:=by rw [hy];simp
 have hxT:xt.length=ts.length:=by rw [hxt];simp
 have h289:=ok156 7 T M Ex Exs L R x y xt hx hy
 rw [hxT] at h289
 have h288:Plain Tryz.prog 155 [.int 7] (.int 2):=ok155 7
 obtain ⟨u,hu⟩: ∃b,b=usedS ⟨7,T,M,Ex,Exs,L,R⟩ ts.length:=⟨_,rfl⟩
 rw [<-hu] at h289 ⊢
 rw [<-hu] at hr1
 obtain ⟨res,hres⟩: ∃v:Int,v=if u=false then-1 else if l<0 then-1 else if r<0 then-1 else ndS ⟨7,T,M,Ex,Exs,L,R⟩ (colsOf ts) env l r:=⟨_,rfl⟩
 rw [<-hres]
 have lt0:A.lt 0 2=true:=hA.lt _ _
 have lt1:A.lt 1 2=true:=hA.lt _ _
 have k2:A.eq 7 2=false:=hA.eq _ _
 have k3:A.eq 7 3=false:=hA.eq _ _
 have k4:A.eq 7 4=false:=hA.eq _ _
 have k5:A.eq 7 5=false:=hA.eq _ _
 have k6:A.eq 7 6=false:=hA.eq _ _
 have k7:A.eq 7 7=true:=hA.eq _ _
 have k8:A.eq 7 8=false:=hA.eq _ _
 have k10:A.eq 7 10=false:=hA.eq _ _
 have l00:A.lt 0 0=false:=hA.lt _ _
 cases u
 case false=>
  have hr2:res= -1:=by rw [hres,if_pos rfl]
  clear hres hct he hl hr hu hr1
  cbv
  repeat' first | exact W1 | (simp only [lt0,lt1,k2,k3,k4,k5,k6,k7,k8,k10,l00];cbv) | refine WA ?_ ?_ | with_reducible intro hcc | refine WS ?_ | ((with_reducible refine hA.st [_,_,_,_,_,_,_] _ _ _ _ ⟨?_,fun ds hds=>?_⟩);rotate_left;subst hds;cbv) | (refine hA.RowE hi q1 ?_;cbv) | refine WK hA hP ?_ | ((with_reducible show A.call _ _ _ _ false _ _ _ _);refine callK_no hA (.bool false) ?_;cbv) | refine W6 ?_ | ((with_reducible first | refine hA.Len fun z hz hb=>?_ | refine hA.Off fun b hb=>?_ | refine hA.Plus fun b hb=>?_ | refine hA.gb _ _ fun vb hvb=>?_);cbv) | ((with_reducible first | refine hA.Sto ?_ fun ds hds=>?_ | refine hA.Sapp ?_ fun sl hsl=>?_);rotate_left;cbv) | refine WL ?_ | fail
  all_goals try simp only [hA.sm,n_cast] at *
  all_goals first | omega | trivial | rfl | exact gg1 _ | exact gg2 _ | exact gg3 _ | exact gg4 _ | exact gg5 _ | exact gg6 _ _ | (simp;done) | (rw [hr2];done)
 case true=>
 rw [if_neg (by simp)] at hres
 by_cases hl0:l<0
 ·have v0:A.lt l 0=true:=by rw [hA.lt];exact decide_eq_true hl0
  have hr2:res= -1:=by rw [hres,if_pos hl0]
  clear hres hct he hl hr hu hr1
  cbv
  repeat' first | exact W1 | (simp only [lt0,lt1,k2,k3,k4,k5,k6,k7,k8,k10,l00,v0];cbv) | refine WA ?_ ?_ | with_reducible intro hcc | refine WS ?_ | ((with_reducible refine hA.st [_,_,_,_,_,_,_] _ _ _ _ ⟨?_,fun ds hds=>?_⟩);rotate_left;subst hds;cbv) | (refine hA.RowE hi q1 ?_;cbv) | refine WK hA hP ?_ | ((with_reducible show A.call _ _ _ _ false _ _ _ _);refine callK_no hA (.bool false) ?_;cbv) | refine W6 ?_ | ((with_reducible first | refine hA.Len fun z hz hb=>?_ | refine hA.Off fun b hb=>?_ | refine hA.Plus fun b hb=>?_ | refine hA.gb _ _ fun vb hvb=>?_);cbv) | ((with_reducible first | refine hA.Sto ?_ fun ds hds=>?_ | refine hA.Sapp ?_ fun sl hsl=>?_);rotate_left;cbv) | refine WL ?_ | fail
  all_goals try simp only [hA.sm,n_cast] at *
  all_goals first | omega | trivial | rfl | exact gg1 _ | exact gg2 _ | exact gg3 _ | exact gg4 _ | exact gg5 _ | exact gg6 _ _ | (simp;done) | (rw [hr2];done)
 rw [if_neg hl0] at hres
 have v0:A.lt l 0=false:=by rw [hA.lt];exact decide_eq_false hl0
 have hr1:=hr1 rfl (by omega)
 have h290:Plain Tryz.prog 157 [.int 7,.int env,.int l] (.int (env+l)):=ok157 7 env l (by omega)
 obtain ⟨e2,he2⟩: ∃z,z=env+l:=⟨_,rfl⟩
 rw [<-he2] at hr1 h290
 by_cases hr0:r<0
 ·have w0:A.lt r 0=true:=by rw [hA.lt];exact decide_eq_true hr0
  have hr2:res= -1:=by rw [hres,if_pos hr0]
  clear hres hct he hl hr hu
  cbv
  repeat' first | exact W1 | (simp only [lt0,lt1,k2,k3,k4,k5,k6,k7,k8,k10,l00,v0,w0];cbv) | refine WA ?_ ?_ | with_reducible intro hcc | refine WS ?_ | ((with_reducible refine hA.st [_,_,_,_,_,_,_] _ _ _ _ ⟨?_,fun ds hds=>?_⟩);rotate_left;subst hds;cbv) | (refine hA.RowE hi q1 ?_;cbv) | refine WK hA hP ?_ | ((with_reducible show A.call _ _ _ _ false _ _ _ _);refine callK_no hA (.bool false) ?_;cbv) | refine W6 ?_ | ((with_reducible first | refine hA.Len fun z hz hb=>?_ | refine hA.Off fun b hb=>?_ | refine hA.Plus fun b hb=>?_ | refine hA.gb _ _ fun vb hvb=>?_);cbv) | ((with_reducible first | refine hA.Sto ?_ fun ds hds=>?_ | refine hA.Sapp ?_ fun sl hsl=>?_);rotate_left;cbv) | refine WL ?_ | fail
  all_goals try simp only [hA.sm,n_cast] at *
  all_goals first | omega | trivial | rfl | exact gg1 _ | exact gg2 _ | exact gg3 _ | exact gg4 _ | exact gg5 _ | exact gg6 _ _ | (simp;done) | (rw [hr2];done)
 rw [if_neg hr0] at hres
 have w0:A.lt r 0=false:=by rw [hA.lt];exact decide_eq_false hr0
 obtain ⟨s1,hs1⟩: ∃z,z=A.add env l:=⟨_,rfl⟩
 have hs1':s1=env+l:=by rw [hs1,hA.add]
 obtain ⟨s2,hs2⟩: ∃z,z=A.add s1 r:=⟨_,rfl⟩
 have hs2':s2=env+l+r:=by rw [hs2,hA.add,hs1']
 have h31:=ok158 Ex x hx hxl s2
 obtain ⟨ex,hex⟩: ∃b,b=exOk Ex s2:=⟨_,rfl⟩
 rw [<-hex] at h31
 rw [hs2'] at hex
 obtain ⟨m1,hm1⟩: ∃b,b=decide (M=1):=⟨_,rfl⟩
 have vm1:A.eq M 1=m1:=by rw [hA.eq,hm1]
 obtain ⟨wl,hwl⟩: ∃z,z=A.add l 1:=⟨_,rfl⟩
 have hwl':wl=l+1:=by rw [hwl,hA.add]
 have hres:res=if m1=false/\ex=false then-1 else if 200<env+wl then-1 else wl:=by
  rw [hres,ndS,hm1,hwl']
  simp only [Int.reduceEq,if_true,if_false,<-hex,decide_eq_false_iff_not,true_and,false_and,and_true,or_true,true_or,or_false,false_or,Bool.false_eq_true,gt_iff_lt,ne_eq,not_true_eq_false,not_false_eq_true]
 cases m1
 ·cases ex
  ·rw [if_pos ⟨rfl,rfl⟩] at hres
   clear hct hu hm1
   cbv
   repeat' first | exact W1 | (simp only [lt0,lt1,k2,k3,k4,k5,k6,k7,k8,k10,l00,v0,w0,vm1,<-hs1,<-hs2];cbv) | refine WA ?_ ?_ | with_reducible intro hcc | refine WS ?_ | ((with_reducible refine hA.st [_,_,_,_,_,_,_] _ _ _ _ ⟨?_,fun ds hds=>?_⟩);rotate_left;subst hds;cbv) | (refine hA.RowE hi q1 ?_;cbv) | refine WK hA hP ?_ | ((with_reducible show A.call _ _ _ _ false _ _ _ _);refine callK_no hA (.bool false) ?_;cbv) | refine W6 ?_ | ((with_reducible first | refine hA.Len fun z hz hb=>?_ | refine hA.Off fun b hb=>?_ | refine hA.Plus fun b hb=>?_ | refine hA.gb _ _ fun vb hvb=>?_);cbv) | ((with_reducible first | refine hA.Sto ?_ fun ds hds=>?_ | refine hA.Sapp ?_ fun sl hsl=>?_);rotate_left;cbv) | refine WL ?_ | fail
   all_goals try simp only [hA.sm,n_cast] at *
   all_goals first | omega | trivial | rfl | exact gg1 _ | exact gg2 _ | exact gg3 _ | exact gg4 _ | exact gg5 _ | exact gg6 _ _ | (simp;done) | (rw [hres];done)
  ·rw [if_neg (by simp)] at hres
   clear hct hu hm1
   obtain ⟨ew,hew⟩: ∃z,z=A.add env wl:=⟨_,rfl⟩
   have hew2:ew=env+wl:=by rw [hew,hA.add]
   rw [<-hew2] at hres
   by_cases h200:200<ew
   ·have vw:A.lt 200 ew=true:=by rw [hA.lt];exact decide_eq_true h200
    rw [if_pos h200] at hres
    cbv
    repeat' first | exact W1 | (simp only [lt0,lt1,k2,k3,k4,k5,k6,k7,k8,k10,l00,v0,w0,vm1,<-hs1,<-hs2,<-hwl,<-hew,vw];cbv) | refine WA ?_ ?_ | with_reducible intro hcc | refine WS ?_ | ((with_reducible refine hA.st [_,_,_,_,_,_,_] _ _ _ _ ⟨?_,fun ds hds=>?_⟩);rotate_left;subst hds;cbv) | (refine hA.RowE hi q1 ?_;cbv) | refine WK hA hP ?_ | ((with_reducible show A.call _ _ _ _ false _ _ _ _);refine callK_no hA (.bool false) ?_;cbv) | refine W6 ?_ | ((with_reducible first | refine hA.Len fun z hz hb=>?_ | refine hA.Off fun b hb=>?_ | refine hA.Plus fun b hb=>?_ | refine hA.gb _ _ fun vb hvb=>?_);cbv) | ((with_reducible first | refine hA.Sto ?_ fun ds hds=>?_ | refine hA.Sapp ?_ fun sl hsl=>?_);rotate_left;cbv) | refine WL ?_ | fail
    all_goals try simp only [hA.sm,n_cast] at *
    all_goals first | omega | trivial | rfl | exact gg1 _ | exact gg2 _ | exact gg3 _ | exact gg4 _ | exact gg5 _ | exact gg6 _ _ | (simp;done) | (rw [hres];done)
   ·have vw:A.lt 200 ew=false:=by rw [hA.lt];exact decide_eq_false h200
    rw [if_neg h200] at hres
    cbv
    repeat' first | exact W1 | (simp only [lt0,lt1,k2,k3,k4,k5,k6,k7,k8,k10,l00,v0,w0,vm1,<-hs1,<-hs2,<-hwl,<-hew,vw];cbv) | refine WA ?_ ?_ | with_reducible intro hcc | refine WS ?_ | ((with_reducible refine hA.st [_,_,_,_,_,_,_] _ _ _ _ ⟨?_,fun ds hds=>?_⟩);rotate_left;subst hds;cbv) | (refine hA.RowE hi q1 ?_;cbv) | refine WK hA hP ?_ | ((with_reducible show A.call _ _ _ _ false _ _ _ _);refine callK_no hA (.bool false) ?_;cbv) | refine W6 ?_ | ((with_reducible first | refine hA.Len fun z hz hb=>?_ | refine hA.Off fun b hb=>?_ | refine hA.Plus fun b hb=>?_ | refine hA.gb _ _ fun vb hvb=>?_);cbv) | ((with_reducible first | refine hA.Sto ?_ fun ds hds=>?_ | refine hA.Sapp ?_ fun sl hsl=>?_);rotate_left;cbv) | refine WL ?_ | fail
    all_goals try simp only [hA.sm,n_cast] at *
    all_goals first | omega | trivial | rfl | exact gg1 _ | exact gg2 _ | exact gg3 _ | exact gg4 _ | exact gg5 _ | exact gg6 _ _ | (simp;done) | (rw [hres];done)
 ·rw [if_neg (by simp)] at hres
  clear hct hu hm1
  obtain ⟨ew,hew⟩: ∃z,z=A.add env wl:=⟨_,rfl⟩
  have hew2:ew=env+wl:=by rw [hew,hA.add]
  rw [<-hew2] at hres
  by_cases h200:200<ew
  ·have vw:A.lt 200 ew=true:=by rw [hA.lt];exact decide_eq_true h200
   rw [if_pos h200] at hres
   cbv
   repeat' first | exact W1 | (simp only [lt0,lt1,k2,k3,k4,k5,k6,k7,k8,k10,l00,v0,w0,vm1,<-hs1,<-hs2,<-hwl,<-hew,vw];cbv) | refine WA ?_ ?_ | with_reducible intro hcc | refine WS ?_ | ((with_reducible refine hA.st [_,_,_,_,_,_,_] _ _ _ _ ⟨?_,fun ds hds=>?_⟩);rotate_left;subst hds;cbv) | (refine hA.RowE hi q1 ?_;cbv) | refine WK hA hP ?_ | ((with_reducible show A.call _ _ _ _ false _ _ _ _);refine callK_no hA (.bool false) ?_;cbv) | ((with_reducible show A.call _ _ _ _ false _ _ _ _);refine callK_no hA (.bool false) ?_;cbv) | refine W6 ?_ | ((with_reducible first | refine hA.Len fun z hz hb=>?_ | refine hA.Off fun b hb=>?_ | refine hA.Plus fun b hb=>?_ | refine hA.gb _ _ fun vb hvb=>?_);cbv) | ((with_reducible first | refine hA.Sto ?_ fun ds hds=>?_ | refine hA.Sapp ?_ fun sl hsl=>?_);rotate_left;cbv) | refine WL ?_ | fail
   all_goals try simp only [hA.sm,n_cast] at *
   all_goals first | omega | trivial | rfl | exact gg1 _ | exact gg2 _ | exact gg3 _ | exact gg4 _ | exact gg5 _ | exact gg6 _ _ | (simp;done) | (rw [hres];done)
  ·have vw:A.lt 200 ew=false:=by rw [hA.lt];exact decide_eq_false h200
   rw [if_neg h200] at hres
   cbv
   repeat' first | exact W1 | (simp only [lt0,lt1,k2,k3,k4,k5,k6,k7,k8,k10,l00,v0,w0,vm1,<-hs1,<-hs2,<-hwl,<-hew,vw];cbv) | refine WA ?_ ?_ | with_reducible intro hcc | refine WS ?_ | ((with_reducible refine hA.st [_,_,_,_,_,_,_] _ _ _ _ ⟨?_,fun ds hds=>?_⟩);rotate_left;subst hds;cbv) | (refine hA.RowE hi q1 ?_;cbv) | refine WK hA hP ?_ | ((with_reducible show A.call _ _ _ _ false _ _ _ _);refine callK_no hA (.bool false) ?_;cbv) | ((with_reducible show A.call _ _ _ _ false _ _ _ _);refine callK_no hA (.bool false) ?_;cbv) | refine W6 ?_ | ((with_reducible first | refine hA.Len fun z hz hb=>?_ | refine hA.Off fun b hb=>?_ | refine hA.Plus fun b hb=>?_ | refine hA.gb _ _ fun vb hvb=>?_);cbv) | ((with_reducible first | refine hA.Sto ?_ fun ds hds=>?_ | refine hA.Sapp ?_ fun sl hsl=>?_);rotate_left;cbv) | refine WL ?_ | fail
   all_goals try simp only [hA.sm,n_cast] at *
   all_goals first | omega | trivial | rfl | exact gg1 _ | exact gg2 _ | exact gg3 _ | exact gg4 _ | exact gg5 _ | exact gg6 _ _ | (simp;done) | (rw [hres];done))
theorem ok243_8 (T M:Int) (Ex:List (Int×Int)) (Exs:List (List (Int×Int))) (L R:Int) (x y es xt:List (List E)) (hx:x=Ex.map orow) (hy:y=Exs.map orr) (ts:List Tb) (hxt:xt=ts.map tbr) (hxl:x.length<=1048576) (hyl:y.length<=1048576) (hel: ∀e∈Exs,e.length<=1048576)
  (i env l r:Int) (hi:0<=i/\i<es.length) (q1:es.getD i.toNat []= [E.int 8,E.int T,E.int M,E.sl x,E.sl y,E.int L,E.int R]) (he:0<=env/\env<=200) (hl: -1<=l/\l<=200) (hr: -1<=r/\r<=200) (hct: ∀t:Int,0<=t->t<ts.length->0<=colsOf ts t/\colsOf ts t<=1000)
  (hl1:Plain Tryz.prog 80 [.agg [.e (.sl es)],.agg [.e (.sl xt)],.int L,.int env] (.int l))
  (hr1:usedS ⟨8,T,M,Ex,Exs,L,R⟩ ts.length=true->0<=l->Plain Tryz.prog 80 [.agg [.e (.sl es)],.agg [.e (.sl xt)],.int R,.int (env+l)] (.int r))
  :Plain Tryz.prog 80 [.agg [.e (.sl es)],.agg [.e (.sl xt)],.int i,.int env] (.int (if usedS ⟨8,T,M,Ex,Exs,L,R⟩ ts.length=false then-1 else if l<0 then-1 else if r<0 then-1 else ndS ⟨8,T,M,Ex,Exs,L,R⟩ (colsOf ts) env l r)):=okOf mixed p80 fun A P hA hP=>(by
 obtain ⟨zy,hzy⟩: ∃z:Int,z=y.length:=⟨_,rfl⟩
 have hyE:y.length=Exs.length:=by rw [hy];simp
 have hxT:xt.length=ts.length:=by rw [hxt];simp
 have h289:=ok156 8 T M Ex Exs L R x y xt hx hy
 rw [hxT] at h289
 have h288:Plain Tryz.prog 155 [.int 8] (.int 2):=ok155 8
 obtain ⟨u,hu⟩: ∃b,b=usedS ⟨8,T,M,Ex,Exs,L,R⟩ ts.length:=⟨_,rfl⟩
 rw [<-hu] at h289 ⊢
 rw [<-hu] at hr1
 obtain ⟨res,hres⟩: ∃v:Int,v=if u=false then-1 else if l<0 then-1 else if r<0 then-1 else ndS ⟨8,T,M,Ex,Exs,L,R⟩ (colsOf ts) env l r:=⟨_,rfl⟩
 rw [<-hres]
 have lt0:A.lt 0 2=true:=hA.lt _ _
 have lt1:A.lt 1 2=true:=hA.lt _ _
 have k2:A.eq 8 2=false:=hA.eq _ _
 have k3:A.eq 8 3=false:=hA.eq _ _
 have k4:A.eq 8 4=false:=hA.eq _ _
 have k5:A.eq 8 5=false:=hA.eq _ _
 have k6:A.eq 8 6=false:=hA.eq _ _
 have k7:A.eq 8 7=false:=hA.eq _ _
 have k8:A.eq 8 8=true:=hA.eq _ _
 have k10:A.eq 8 10=false:=hA.eq _ _
 have l00:A.lt 0 0=false:=hA.lt _ _
 cases u
 case false=>
  have hr2:res= -1:=by rw [hres,if_pos rfl]
  clear hres hct he hl hr hu hr1
  cbv
  repeat' first | exact W1 | (simp only [lt0,lt1,k2,k3,k4,k5,k6,k7,k8,k10,l00];cbv) | refine WA ?_ ?_ | with_reducible intro hcc | refine WS ?_ | ((with_reducible refine hA.st [_,_,_,_,_,_,_] _ _ _ _ ⟨?_,fun ds hds=>?_⟩);rotate_left;subst hds;cbv) | (refine hA.RowE hi q1 ?_;cbv) | refine WK hA hP ?_ | ((with_reducible show A.call _ _ _ _ false _ _ _ _);refine callK_no hA (.bool false) ?_;cbv) | refine W6 ?_ | ((with_reducible first | refine hA.Len fun z hz hb=>?_ | refine hA.Off fun b hb=>?_ | refine hA.Plus fun b hb=>?_ | refine hA.gb _ _ fun vb hvb=>?_);cbv) | ((with_reducible first | refine hA.Sto ?_ fun ds hds=>?_ | refine hA.Sapp ?_ fun sl hsl=>?_);rotate_left;cbv) | refine WL ?_ | fail
  all_goals try simp only [hA.sm,n_cast] at *
  all_goals first | omega | trivial | rfl | exact gg1 _ | exact gg2 _ | exact gg3 _ | exact gg4 _ | exact gg5 _ | exact gg6 _ _ | (simp;done) | (rw [hr2];done)
 case true=>
 rw [if_neg (by simp)] at hres
 by_cases hl0:l<0
 ·have v0:A.lt l 0=true:=by rw [hA.lt];exact decide_eq_true hl0
  have hr2:res= -1:=by rw [hres,if_pos hl0]
  clear hres hct he hl hr hu hr1
  cbv
  repeat' first | exact W1 | (simp only [lt0,lt1,k2,k3,k4,k5,k6,k7,k8,k10,l00,v0];cbv) | refine WA ?_ ?_ | with_reducible intro hcc | refine WS ?_ | ((with_reducible refine hA.st [_,_,_,_,_,_,_] _ _ _ _ ⟨?_,fun ds hds=>?_⟩);rotate_left;subst hds;cbv) | (refine hA.RowE hi q1 ?_;cbv) | refine WK hA hP ?_ | ((with_reducible show A.call _ _ _ _ false _ _ _ _);refine callK_no hA (.bool false) ?_;cbv) | refine W6 ?_ | ((with_reducible first | refine hA.Len fun z hz hb=>?_ | refine hA.Off fun b hb=>?_ | refine hA.Plus fun b hb=>?_ | refine hA.gb _ _ fun vb hvb=>?_);cbv) | ((with_reducible first | refine hA.Sto ?_ fun ds hds=>?_ | refine hA.Sapp ?_ fun sl hsl=>?_);rotate_left;cbv) | refine WL ?_ | fail
  all_goals try simp only [hA.sm,n_cast] at *
  all_goals first | omega | trivial | rfl | exact gg1 _ | exact gg2 _ | exact gg3 _ | exact gg4 _ | exact gg5 _ | exact gg6 _ _ | (simp;done) | (rw [hr2];done)
 rw [if_neg hl0] at hres
 have v0:A.lt l 0=false:=by rw [hA.lt];exact decide_eq_false hl0
 have hr1:=hr1 rfl (by omega)
 have h290:Plain Tryz.prog 157 [.int 8,.int env,.int l] (.int (env+l)):=ok157 8 env l (by omega)
 obtain ⟨e2,he2⟩: ∃z,z=env+l:=⟨_,rfl⟩
 rw [<-he2] at hr1 h290
 by_cases hr0:r<0
 ·have w0:A.lt r 0=true:=by rw [hA.lt];exact decide_eq_true hr0
  have hr2:res= -1:=by rw [hres,if_pos hr0]
  clear hres hct he hl hr hu
  cbv
  repeat' first | exact W1 | (simp only [lt0,lt1,k2,k3,k4,k5,k6,k7,k8,k10,l00,v0,w0];cbv) | refine WA ?_ ?_ | with_reducible intro hcc | refine WS ?_ | ((with_reducible refine hA.st [_,_,_,_,_,_,_] _ _ _ _ ⟨?_,fun ds hds=>?_⟩);rotate_left;subst hds;cbv) | (refine hA.RowE hi q1 ?_;cbv) | refine WK hA hP ?_ | ((with_reducible show A.call _ _ _ _ false _ _ _ _);refine callK_no hA (.bool false) ?_;cbv) | refine W6 ?_ | ((with_reducible first | refine hA.Len fun z hz hb=>?_ | refine hA.Off fun b hb=>?_ | refine hA.Plus fun b hb=>?_ | refine hA.gb _ _ fun vb hvb=>?_);cbv) | ((with_reducible first | refine hA.Sto ?_ fun ds hds=>?_ | refine hA.Sapp ?_ fun sl hsl=>?_);rotate_left;cbv) | refine WL ?_ | fail
  all_goals try simp only [hA.sm,n_cast] at *
  all_goals first | omega | trivial | rfl | exact gg1 _ | exact gg2 _ | exact gg3 _ | exact gg4 _ | exact gg5 _ | exact gg6 _ _ | (simp;done) | (rw [hr2];done)
 rw [if_neg hr0] at hres
 have w0:A.lt r 0=false:=by rw [hA.lt];exact decide_eq_false hr0
 obtain ⟨s1,hs1⟩: ∃z,z=A.add env l:=⟨_,rfl⟩
 have hs1':s1=env+l:=by rw [hs1,hA.add]
 obtain ⟨s2,hs2⟩: ∃z,z=A.add s1 r:=⟨_,rfl⟩
 have hs2':s2=env+l+r:=by rw [hs2,hA.add,hs1']
 have h31:=ok158 Ex x hx hxl s2
 obtain ⟨ex,hex⟩: ∃b,b=exOk Ex s2:=⟨_,rfl⟩
 rw [<-hex] at h31
 rw [hs2'] at hex
 obtain ⟨m1,hm1⟩: ∃b,b=decide (M=1):=⟨_,rfl⟩
 have vm1:A.eq M 1=m1:=by rw [hA.eq,hm1]
 obtain ⟨wl,hwl⟩: ∃z,z=A.add l 1:=⟨_,rfl⟩
 have hwl':wl=l+1:=by rw [hwl,hA.add]
 have hres:res=if m1=false/\ex=false then-1 else if 200<env+wl then-1 else wl:=by
  rw [hres,ndS,hm1,hwl']
  simp only [Int.reduceEq,if_true,if_false,<-hex,decide_eq_false_iff_not,true_and,false_and,and_true,or_true,true_or,or_false,false_or,Bool.false_eq_true,gt_iff_lt,ne_eq,not_true_eq_false,not_false_eq_true]
 cases m1
 ·cases ex
  ·rw [if_pos ⟨rfl,rfl⟩] at hres
   clear hct hu hm1
   cbv
   repeat' first | exact W1 | (simp only [lt0,lt1,k2,k3,k4,k5,k6,k7,k8,k10,l00,v0,w0,vm1,<-hs1,<-hs2];cbv) | refine WA ?_ ?_ | with_reducible intro hcc | refine WS ?_ | ((with_reducible refine hA.st [_,_,_,_,_,_,_] _ _ _ _ ⟨?_,fun ds hds=>?_⟩);rotate_left;subst hds;cbv) | (refine hA.RowE hi q1 ?_;cbv) | refine WK hA hP ?_ | ((with_reducible show A.call _ _ _ _ false _ _ _ _);refine callK_no hA (.bool false) ?_;cbv) | refine W6 ?_ | ((with_reducible first | refine hA.Len fun z hz hb=>?_ | refine hA.Off fun b hb=>?_ | refine hA.Plus fun b hb=>?_ | refine hA.gb _ _ fun vb hvb=>?_);cbv) | ((with_reducible first | refine hA.Sto ?_ fun ds hds=>?_ | refine hA.Sapp ?_ fun sl hsl=>?_);rotate_left;cbv) | refine WL ?_ | fail
   all_goals try simp only [hA.sm,n_cast] at *
   all_goals first | omega | trivial | rfl | exact gg1 _ | exact gg2 _ | exact gg3 _ | exact gg4 _ | exact gg5 _ | exact gg6 _ _ | (simp;done) | (rw [hres];done)
  ·rw [if_neg (by simp)] at hres
   clear hct hu hm1
   obtain ⟨ew,hew⟩: ∃z,z=A.add env wl:=⟨_,rfl⟩
   have hew2:ew=env+wl:=by rw [hew,hA.add]
   rw [<-hew2] at hres
   by_cases h200:200<ew
   ·have vw:A.lt 200 ew=true:=by rw [hA.lt];exact decide_eq_true h200
    rw [if_pos h200] at hres
    cbv
    repeat' first | exact W1 | (simp only [lt0,lt1,k2,k3,k4,k5,k6,k7,k8,k10,l00,v0,w0,vm1,<-hs1,<-hs2,<-hwl,<-hew,vw];cbv) | refine WA ?_ ?_ | with_reducible intro hcc | refine WS ?_ | ((with_reducible refine hA.st [_,_,_,_,_,_,_] _ _ _ _ ⟨?_,fun ds hds=>?_⟩);rotate_left;subst hds;cbv) | (refine hA.RowE hi q1 ?_;cbv) | refine WK hA hP ?_ | ((with_reducible show A.call _ _ _ _ false _ _ _ _);refine callK_no hA (.bool false) ?_;cbv) | refine W6 ?_ | ((with_reducible first | refine hA.Len fun z hz hb=>?_ | refine hA.Off fun b hb=>?_ | refine hA.Plus fun b hb=>?_ | refine hA.gb _ _ fun vb hvb=>?_);cbv) | ((with_reducible first | refine hA.Sto ?_ fun ds hds=>?_ | refine hA.Sapp ?_ fun sl hsl=>?_);rotate_left;cbv) | refine WL ?_ | fail
    all_goals try simp only [hA.sm,n_cast] at *
    all_goals first | omega | trivial | rfl | exact gg1 _ | exact gg2 _ | exact gg3 _ | exact gg4 _ | exact gg5 _ | exact gg6 _ _ | (simp;done) | (rw [hres];done)
   ·have vw:A.lt 200 ew=false:=by rw [hA.lt];exact decide_eq_false h200
    rw [if_neg h200] at hres
    cbv
    repeat' first | exact W1 | (simp only [lt0,lt1,k2,k3,k4,k5,k6,k7,k8,k10,l00,v0,w0,vm1,<-hs1,<-hs2,<-hwl,<-hew,vw];cbv) | refine WA ?_ ?_ | with_reducible intro hcc | refine WS ?_ | ((with_reducible refine hA.st [_,_,_,_,_,_,_] _ _ _ _ ⟨?_,fun ds hds=>?_⟩);rotate_left;subst hds;cbv) | (refine hA.RowE hi q1 ?_;cbv) | refine WK hA hP ?_ | ((with_reducible show A.call _ _ _ _ false _ _ _ _);refine callK_no hA (.bool false) ?_;cbv) | refine W6 ?_ | ((with_reducible first | refine hA.Len fun z hz hb=>?_ | refine hA.Off fun b hb=>?_ | refine hA.Plus fun b hb=>?_ | refine hA.gb _ _ fun vb hvb=>?_);cbv) | ((with_reducible first | refine hA.Sto ?_ fun ds hds=>?_ | refine hA.Sapp ?_ fun sl hsl=>?_);rotate_left;cbv) | refine WL ?_ | fail
    all_goals try simp only [hA.sm,n_cast] at *
    all_goals first | omega | trivial | rfl | exact gg1 _ | exact gg2 _ | exact gg3 _ | exact gg4 _ | exact gg5 _ | exact gg6 _ _ | (simp;done) | (rw [hres];done)
 ·rw [if_neg (by simp)] at hres
  clear hct hu hm1
  obtain ⟨ew,hew⟩: ∃z,z=A.add env wl:=⟨_,rfl⟩
  have hew2:ew=env+wl:=by rw [hew,hA.add]
  rw [<-hew2] at hres
  by_cases h200:200<ew
  ·have vw:A.lt 200 ew=true:=by rw [hA.lt];exact decide_eq_true h200
   rw [if_pos h200] at hres
   cbv
   repeat' first | exact W1 | (simp only [lt0,lt1,k2,k3,k4,k5,k6,k7,k8,k10,l00,v0,w0,vm1,<-hs1,<-hs2,<-hwl,<-hew,vw];cbv) | refine WA ?_ ?_ | with_reducible intro hcc | refine WS ?_ | ((with_reducible refine hA.st [_,_,_,_,_,_,_] _ _ _ _ ⟨?_,fun ds hds=>?_⟩);rotate_left;subst hds;cbv) | (refine hA.RowE hi q1 ?_;cbv) | refine WK hA hP ?_ | ((with_reducible show A.call _ _ _ _ false _ _ _ _);refine callK_no hA (.bool false) ?_;cbv) | ((with_reducible show A.call _ _ _ _ false _ _ _ _);refine callK_no hA (.bool false) ?_;cbv) | refine W6 ?_ | ((with_reducible first | refine hA.Len fun z hz hb=>?_ | refine hA.Off fun b hb=>?_ | refine hA.Plus fun b hb=>?_ | refine hA.gb _ _ fun vb hvb=>?_);cbv) | ((with_reducible first | refine hA.Sto ?_ fun ds hds=>?_ | refine hA.Sapp ?_ fun sl hsl=>?_);rotate_left;cbv) | refine WL ?_ | fail
   all_goals try simp only [hA.sm,n_cast] at *
   all_goals first | omega | trivial | rfl | exact gg1 _ | exact gg2 _ | exact gg3 _ | exact gg4 _ | exact gg5 _ | exact gg6 _ _ | (simp;done) | (rw [hres];done)
  ·have vw:A.lt 200 ew=false:=by rw [hA.lt];exact decide_eq_false h200
   rw [if_neg h200] at hres
   cbv
   repeat' first | exact W1 | (simp only [lt0,lt1,k2,k3,k4,k5,k6,k7,k8,k10,l00,v0,w0,vm1,<-hs1,<-hs2,<-hwl,<-hew,vw];cbv) | refine WA ?_ ?_ | with_reducible intro hcc | refine WS ?_ | ((with_reducible refine hA.st [_,_,_,_,_,_,_] _ _ _ _ ⟨?_,fun ds hds=>?_⟩);rotate_left;subst hds;cbv) | (refine hA.RowE hi q1 ?_;cbv) | refine WK hA hP ?_ | ((with_reducible show A.call _ _ _ _ false _ _ _ _);refine callK_no hA (.bool false) ?_;cbv) | ((with_reducible show A.call _ _ _ _ false _ _ _ _);refine callK_no hA (.bool false) ?_;cbv) | refine W6 ?_ | ((with_reducible first | refine hA.Len fun z hz hb=>?_ | refine hA.Off fun b hb=>?_ | refine hA.Plus fun b hb=>?_ | refine hA.gb _ _ fun vb hvb=>?_);cbv) | ((with_reducible first | refine hA.Sto ?_ fun ds hds=>?_ | refine hA.Sapp ?_ fun sl hsl=>?_);rotate_left;cbv) | refine WL ?_ | fail
   all_goals try simp only [hA.sm,n_cast] at *
   all_goals first | omega | trivial | rfl | exact gg1 _ | exact gg2 _ | exact gg3 _ | exact gg4 _ | exact gg5 _ | exact gg6 _ _ | (simp;done) | (rw [hres];done))
theorem ok243_9 (T M:Int) (Ex:List (Int×Int)) (Exs:List (List (Int×Int))) (L R:Int) (x y es xt:List (List E)) (hx:x=Ex.map orow) (hy:y=Exs.map orr) (ts:List Tb) (hxt:xt=ts.map tbr) (hxl:x.length<=1048576) (hyl:y.length<=1048576) (hel: ∀e∈Exs,e.length<=1048576)
  (i env l r:Int) (hi:0<=i/\i<es.length) (q1:es.getD i.toNat []= [E.int 9,E.int T,E.int M,E.sl x,E.sl y,E.int L,E.int R]) (he:0<=env/\env<=200) (hl: -1<=l/\l<=200) (hr: -1<=r/\r<=200) (hct: ∀t:Int,0<=t->t<ts.length->0<=colsOf ts t/\colsOf ts t<=1000)
  (hl1:Plain Tryz.prog 80 [.agg [.e (.sl es)],.agg [.e (.sl xt)],.int L,.int env] (.int l))
  :Plain Tryz.prog 80 [.agg [.e (.sl es)],.agg [.e (.sl xt)],.int i,.int env] (.int (if usedS ⟨9,T,M,Ex,Exs,L,R⟩ ts.length=false then-1 else if l<0 then-1 else if 0<0 then-1 else ndS ⟨9,T,M,Ex,Exs,L,R⟩ (colsOf ts) env l 0)):=okOf mixed p80 fun A P hA hP=>(by
 obtain ⟨zy,hzy⟩: ∃z:Int,z=y.length:=⟨_,rfl⟩
 have hyE:y.length=Exs.length:=by rw [hy];simp
 have hxT:xt.length=ts.length:=by rw [hxt];simp
 have h289:=ok156 9 T M Ex Exs L R x y xt hx hy
 rw [hxT] at h289
 have h288:Plain Tryz.prog 155 [.int 9] (.int 1):=ok155 9
 obtain ⟨u,hu⟩: ∃b,b=usedS ⟨9,T,M,Ex,Exs,L,R⟩ ts.length:=⟨_,rfl⟩
 rw [<-hu] at h289 ⊢
 obtain ⟨res,hres⟩: ∃v:Int,v=if u=false then-1 else if l<0 then-1 else if 0<0 then-1 else ndS ⟨9,T,M,Ex,Exs,L,R⟩ (colsOf ts) env l 0:=⟨_,rfl⟩
 rw [<-hres]
 have lt0:A.lt 0 1=true:=hA.lt _ _
 have lt1:A.lt 1 1=false:=hA.lt _ _
 have k2:A.eq 9 2=false:=hA.eq _ _
 have k3:A.eq 9 3=false:=hA.eq _ _
 have k4:A.eq 9 4=false:=hA.eq _ _
 have k5:A.eq 9 5=false:=hA.eq _ _
 have k6:A.eq 9 6=false:=hA.eq _ _
 have k7:A.eq 9 7=false:=hA.eq _ _
 have k8:A.eq 9 8=false:=hA.eq _ _
 have k10:A.eq 9 10=false:=hA.eq _ _
 have l00:A.lt 0 0=false:=hA.lt _ _
 cases u
 case false=>
  have hr2:res= -1:=by rw [hres,if_pos rfl]
  clear hres hct he hl hr hu
  cbv
  repeat' first | exact W1 | (simp only [lt0,lt1,k2,k3,k4,k5,k6,k7,k8,k10,l00];cbv) | refine WA ?_ ?_ | with_reducible intro hcc | refine WS ?_ | ((with_reducible refine hA.st [_,_,_,_,_,_,_] _ _ _ _ ⟨?_,fun ds hds=>?_⟩);rotate_left;subst hds;cbv) | (refine hA.RowE hi q1 ?_;cbv) | refine WK hA hP ?_ | ((with_reducible show A.call _ _ _ _ false _ _ _ _);refine callK_no hA (.bool false) ?_;cbv) | refine W6 ?_ | ((with_reducible first | refine hA.Len fun z hz hb=>?_ | refine hA.Off fun b hb=>?_ | refine hA.Plus fun b hb=>?_ | refine hA.gb _ _ fun vb hvb=>?_);cbv) | ((with_reducible first | refine hA.Sto ?_ fun ds hds=>?_ | refine hA.Sapp ?_ fun sl hsl=>?_);rotate_left;cbv) | refine WL ?_ | fail
  all_goals try simp only [hA.sm,n_cast] at *
  all_goals first | omega | trivial | rfl | exact gg1 _ | exact gg2 _ | exact gg3 _ | exact gg4 _ | exact gg5 _ | exact gg6 _ _ | (simp;done) | (rw [hr2];done)
 case true=>
 rw [if_neg (by simp)] at hres
 by_cases hl0:l<0
 ·have v0:A.lt l 0=true:=by rw [hA.lt];exact decide_eq_true hl0
  have hr2:res= -1:=by rw [hres,if_pos hl0]
  clear hres hct he hl hr hu
  cbv
  repeat' first | exact W1 | (simp only [lt0,lt1,k2,k3,k4,k5,k6,k7,k8,k10,l00,v0];cbv) | refine WA ?_ ?_ | with_reducible intro hcc | refine WS ?_ | ((with_reducible refine hA.st [_,_,_,_,_,_,_] _ _ _ _ ⟨?_,fun ds hds=>?_⟩);rotate_left;subst hds;cbv) | (refine hA.RowE hi q1 ?_;cbv) | refine WK hA hP ?_ | ((with_reducible show A.call _ _ _ _ false _ _ _ _);refine callK_no hA (.bool false) ?_;cbv) | refine W6 ?_ | ((with_reducible first | refine hA.Len fun z hz hb=>?_ | refine hA.Off fun b hb=>?_ | refine hA.Plus fun b hb=>?_ | refine hA.gb _ _ fun vb hvb=>?_);cbv) | ((with_reducible first | refine hA.Sto ?_ fun ds hds=>?_ | refine hA.Sapp ?_ fun sl hsl=>?_);rotate_left;cbv) | refine WL ?_ | fail
  all_goals try simp only [hA.sm,n_cast] at *
  all_goals first | omega | trivial | rfl | exact gg1 _ | exact gg2 _ | exact gg3 _ | exact gg4 _ | exact gg5 _ | exact gg6 _ _ | (simp;done) | (rw [hr2];done)
 rw [if_neg hl0] at hres
 have v0:A.lt l 0=false:=by rw [hA.lt];exact decide_eq_false hl0
 rw [if_neg (by omega)] at hres
 have hres:res=if 200<env+l then-1 else l:=by
  rw [hres,ndS]
  simp only [Int.reduceEq,if_true,if_false,true_and,false_and,and_true,or_true,true_or,or_false,false_or,Bool.false_eq_true,gt_iff_lt,ne_eq,not_true_eq_false,not_false_eq_true]
 clear hct hu
 obtain ⟨ew,hew⟩: ∃z,z=A.add env l:=⟨_,rfl⟩
 have hew2:ew=env+l:=by rw [hew,hA.add]
 rw [<-hew2] at hres
 by_cases h200:200<ew
 ·have vw:A.lt 200 ew=true:=by rw [hA.lt];exact decide_eq_true h200
  rw [if_pos h200] at hres
  cbv
  repeat' first | exact W1 | (simp only [lt0,lt1,k2,k3,k4,k5,k6,k7,k8,k10,l00,v0,<-hew,vw];cbv) | refine WA ?_ ?_ | with_reducible intro hcc | refine WS ?_ | ((with_reducible refine hA.st [_,_,_,_,_,_,_] _ _ _ _ ⟨?_,fun ds hds=>?_⟩);rotate_left;subst hds;cbv) | (refine hA.RowE hi q1 ?_;cbv) | refine WK hA hP ?_ | ((with_reducible show A.call _ _ _ _ false _ _ _ _);refine callK_no hA (.bool false) ?_;cbv) | refine W6 ?_ | ((with_reducible first | refine hA.Len fun z hz hb=>?_ | refine hA.Off fun b hb=>?_ | refine hA.Plus fun b hb=>?_ | refine hA.gb _ _ fun vb hvb=>?_);cbv) | ((with_reducible first | refine hA.Sto ?_ fun ds hds=>?_ | refine hA.Sapp ?_ fun sl hsl=>?_);rotate_left;cbv) | refine WL ?_ | fail
  all_goals try simp only [hA.sm,n_cast] at *
  all_goals first | omega | trivial | rfl | exact gg1 _ | exact gg2 _ | exact gg3 _ | exact gg4 _ | exact gg5 _ | exact gg6 _ _ | (simp;done) | (rw [hres];done)
 ·have vw:A.lt 200 ew=false:=by rw [hA.lt];exact decide_eq_false h200
  rw [if_neg h200] at hres
  cbv
  repeat' first | exact W1 | (simp only [lt0,lt1,k2,k3,k4,k5,k6,k7,k8,k10,l00,v0,<-hew,vw];cbv) | refine WA ?_ ?_ | with_reducible intro hcc | refine WS ?_ | ((with_reducible refine hA.st [_,_,_,_,_,_,_] _ _ _ _ ⟨?_,fun ds hds=>?_⟩);rotate_left;subst hds;cbv) | (refine hA.RowE hi q1 ?_;cbv) | refine WK hA hP ?_ | ((with_reducible show A.call _ _ _ _ false _ _ _ _);refine callK_no hA (.bool false) ?_;cbv) | refine W6 ?_ | ((with_reducible first | refine hA.Len fun z hz hb=>?_ | refine hA.Off fun b hb=>?_ | refine hA.Plus fun b hb=>?_ | refine hA.gb _ _ fun vb hvb=>?_);cbv) | ((with_reducible first | refine hA.Sto ?_ fun ds hds=>?_ | refine hA.Sapp ?_ fun sl hsl=>?_);rotate_left;cbv) | refine WL ?_ | fail
  all_goals try simp only [hA.sm,n_cast] at *
  all_goals first | omega | trivial | rfl | exact gg1 _ | exact gg2 _ | exact gg3 _ | exact gg4 _ | exact gg5 _ | exact gg6 _ _ | (simp;done) | (rw [hres];done))
theorem ok243_10 (T M:Int) (Ex:List (Int×Int)) (Exs:List (List (Int×Int))) (L R:Int) (x y es xt:List (List E)) (hx:x=Ex.map orow) (hy:y=Exs.map orr) (ts:List Tb) (hxt:xt=ts.map tbr) (hxl:x.length<=1048576) (hyl:y.length<=1048576) (hel: ∀e∈Exs,e.length<=1048576)
  (i env l r:Int) (hi:0<=i/\i<es.length) (q1:es.getD i.toNat []= [E.int 10,E.int T,E.int M,E.sl x,E.sl y,E.int L,E.int R]) (he:0<=env/\env<=200) (hl: -1<=l/\l<=200) (hr: -1<=r/\r<=200) (hct: ∀t:Int,0<=t->t<ts.length->0<=colsOf ts t/\colsOf ts t<=1000)
  (hl1:Plain Tryz.prog 80 [.agg [.e (.sl es)],.agg [.e (.sl xt)],.int L,.int env] (.int l))
  (hr1:usedS ⟨10,T,M,Ex,Exs,L,R⟩ ts.length=true->0<=l->Plain Tryz.prog 80 [.agg [.e (.sl es)],.agg [.e (.sl xt)],.int R,.int (env)] (.int r))
  :Plain Tryz.prog 80 [.agg [.e (.sl es)],.agg [.e (.sl xt)],.int i,.int env] (.int (if usedS ⟨10,T,M,Ex,Exs,L,R⟩ ts.length=false then-1 else if l<0 then-1 else if r<0 then-1 else ndS ⟨10,T,M,Ex,Exs,L,R⟩ (colsOf ts) env l r)):=okOf mixed p80 fun A P hA hP=>(by
 obtain ⟨zy,hzy⟩: ∃z:Int,z=y.length:=⟨_,rfl⟩
 have hyE:y.length=Exs.length:=by rw [hy];simp
 have hxT:xt.length=ts.length:=by rw [hxt];simp
 have h289:=ok156 10 T M Ex Exs L R x y xt hx hy
 rw [hxT] at h289
 have h288:Plain Tryz.prog 155 [.int 10] (.int 2):=ok155 10
 obtain ⟨u,hu⟩: ∃b,b=usedS ⟨10,T,M,Ex,Exs,L,R⟩ ts.length:=⟨_,rfl⟩
 rw [<-hu] at h289 ⊢
 rw [<-hu] at hr1
 obtain ⟨res,hres⟩: ∃v:Int,v=if u=false then-1 else if l<0 then-1 else if r<0 then-1 else ndS ⟨10,T,M,Ex,Exs,L,R⟩ (colsOf ts) env l r:=⟨_,rfl⟩
 rw [<-hres]
 have lt0:A.lt 0 2=true:=hA.lt _ _
 have lt1:A.lt 1 2=true:=hA.lt _ _
 have k2:A.eq 10 2=false:=hA.eq _ _
 have k3:A.eq 10 3=false:=hA.eq _ _
 have k4:A.eq 10 4=false:=hA.eq _ _
 have k5:A.eq 10 5=false:=hA.eq _ _
 have k6:A.eq 10 6=false:=hA.eq _ _
 have k7:A.eq 10 7=false:=hA.eq _ _
 have k8:A.eq 10 8=false:=hA.eq _ _
 have k10:A.eq 10 10=true:=hA.eq _ _
 have l00:A.lt 0 0=false:=hA.lt _ _
 cases u
 case false=>
  have hr2:res= -1:=by rw [hres,if_pos rfl]
  clear hres hct he hl hr hu hr1
  cbv
  repeat' first | exact W1 | (simp only [lt0,lt1,k2,k3,k4,k5,k6,k7,k8,k10,l00];cbv) | refine WA ?_ ?_ | with_reducible intro hcc | refine WS ?_ | ((with_reducible refine hA.st [_,_,_,_,_,_,_] _ _ _ _ ⟨?_,fun ds hds=>?_⟩);rotate_left;subst hds;cbv) | (refine hA.RowE hi q1 ?_;cbv) | refine WK hA hP ?_ | ((with_reducible show A.call _ _ _ _ false _ _ _ _);refine callK_no hA (.bool false) ?_;cbv) | refine W6 ?_ | ((with_reducible first | refine hA.Len fun z hz hb=>?_ | refine hA.Off fun b hb=>?_ | refine hA.Plus fun b hb=>?_ | refine hA.gb _ _ fun vb hvb=>?_);cbv) | ((with_reducible first | refine hA.Sto ?_ fun ds hds=>?_ | refine hA.Sapp ?_ fun sl hsl=>?_);rotate_left;cbv) | refine WL ?_ | fail
  all_goals try simp only [hA.sm,n_cast] at *
  all_goals first | omega | trivial | rfl | exact gg1 _ | exact gg2 _ | exact gg3 _ | exact gg4 _ | exact gg5 _ | exact gg6 _ _ | (simp;done) | (rw [hr2];done)
 case true=>
 rw [if_neg (by simp)] at hres
 by_cases hl0:l<0
 ·have v0:A.lt l 0=true:=by rw [hA.lt];exact decide_eq_true hl0
  have hr2:res= -1:=by rw [hres,if_pos hl0]
  clear hres hct he hl hr hu hr1
  cbv
  repeat' first | exact W1 | (simp only [lt0,lt1,k2,k3,k4,k5,k6,k7,k8,k10,l00,v0];cbv) | refine WA ?_ ?_ | with_reducible intro hcc | refine WS ?_ | ((with_reducible refine hA.st [_,_,_,_,_,_,_] _ _ _ _ ⟨?_,fun ds hds=>?_⟩);rotate_left;subst hds;cbv) | (refine hA.RowE hi q1 ?_;cbv) | refine WK hA hP ?_ | ((with_reducible show A.call _ _ _ _ false _ _ _ _);refine callK_no hA (.bool false) ?_;cbv) | refine W6 ?_ | ((with_reducible first | refine hA.Len fun z hz hb=>?_ | refine hA.Off fun b hb=>?_ | refine hA.Plus fun b hb=>?_ | refine hA.gb _ _ fun vb hvb=>?_);cbv) | ((with_reducible first | refine hA.Sto ?_ fun ds hds=>?_ | refine hA.Sapp ?_ fun sl hsl=>?_);rotate_left;cbv) | refine WL ?_ | fail
  all_goals try simp only [hA.sm,n_cast] at *
  all_goals first | omega | trivial | rfl | exact gg1 _ | exact gg2 _ | exact gg3 _ | exact gg4 _ | exact gg5 _ | exact gg6 _ _ | (simp;done) | (rw [hr2];done)
 rw [if_neg hl0] at hres
 have v0:A.lt l 0=false:=by rw [hA.lt];exact decide_eq_false hl0
 have hr1:=hr1 rfl (by omega)
 have h290:Plain Tryz.prog 157 [.int 10,.int env,.int l] (.int (env)):=ok157 10 env l (by omega)
 by_cases hr0:r<0
 ·have w0:A.lt r 0=true:=by rw [hA.lt];exact decide_eq_true hr0
  have hr2:res= -1:=by rw [hres,if_pos hr0]
  clear hres hct he hl hr hu
  cbv
  repeat' first | exact W1 | (simp only [lt0,lt1,k2,k3,k4,k5,k6,k7,k8,k10,l00,v0,w0];cbv) | refine WA ?_ ?_ | with_reducible intro hcc | refine WS ?_ | ((with_reducible refine hA.st [_,_,_,_,_,_,_] _ _ _ _ ⟨?_,fun ds hds=>?_⟩);rotate_left;subst hds;cbv) | (refine hA.RowE hi q1 ?_;cbv) | refine WK hA hP ?_ | ((with_reducible show A.call _ _ _ _ false _ _ _ _);refine callK_no hA (.bool false) ?_;cbv) | refine W6 ?_ | ((with_reducible first | refine hA.Len fun z hz hb=>?_ | refine hA.Off fun b hb=>?_ | refine hA.Plus fun b hb=>?_ | refine hA.gb _ _ fun vb hvb=>?_);cbv) | ((with_reducible first | refine hA.Sto ?_ fun ds hds=>?_ | refine hA.Sapp ?_ fun sl hsl=>?_);rotate_left;cbv) | refine WL ?_ | fail
  all_goals try simp only [hA.sm,n_cast] at *
  all_goals first | omega | trivial | rfl | exact gg1 _ | exact gg2 _ | exact gg3 _ | exact gg4 _ | exact gg5 _ | exact gg6 _ _ | (simp;done) | (rw [hr2];done)
 rw [if_neg hr0] at hres
 have w0:A.lt r 0=false:=by rw [hA.lt];exact decide_eq_false hr0
 obtain ⟨lr,hlr⟩: ∃b,b=decide (l=r):=⟨_,rfl⟩
 have vlr:A.eq l r=lr:=by rw [hA.eq,hlr]
 have hres:res=if lr=false then-1 else if 200<env+l then-1 else l:=by
  rw [hres,ndS,hlr]
  simp only [Int.reduceEq,if_true,if_false,decide_eq_false_iff_not,true_and,false_and,and_true,or_true,true_or,or_false,false_or,Bool.false_eq_true,gt_iff_lt,ne_eq,not_true_eq_false,not_false_eq_true]
 clear hct hu hlr
 cases lr
 ·rw [if_pos rfl] at hres
  cbv
  repeat' first | exact W1 | (simp only [lt0,lt1,k2,k3,k4,k5,k6,k7,k8,k10,l00,v0,w0,vlr];cbv) | refine WA ?_ ?_ | with_reducible intro hcc | refine WS ?_ | ((with_reducible refine hA.st [_,_,_,_,_,_,_] _ _ _ _ ⟨?_,fun ds hds=>?_⟩);rotate_left;subst hds;cbv) | (refine hA.RowE hi q1 ?_;cbv) | refine WK hA hP ?_ | ((with_reducible show A.call _ _ _ _ false _ _ _ _);refine callK_no hA (.bool false) ?_;cbv) | refine W6 ?_ | ((with_reducible first | refine hA.Len fun z hz hb=>?_ | refine hA.Off fun b hb=>?_ | refine hA.Plus fun b hb=>?_ | refine hA.gb _ _ fun vb hvb=>?_);cbv) | ((with_reducible first | refine hA.Sto ?_ fun ds hds=>?_ | refine hA.Sapp ?_ fun sl hsl=>?_);rotate_left;cbv) | refine WL ?_ | fail
  all_goals try simp only [hA.sm,n_cast] at *
  all_goals first | omega | trivial | rfl | exact gg1 _ | exact gg2 _ | exact gg3 _ | exact gg4 _ | exact gg5 _ | exact gg6 _ _ | (simp;done) | (rw [hres];done)
 ·rw [if_neg (by simp)] at hres
  obtain ⟨ew,hew⟩: ∃z,z=A.add env l:=⟨_,rfl⟩
  have hew2:ew=env+l:=by rw [hew,hA.add]
  rw [<-hew2] at hres
  by_cases h200:200<ew
  ·have vw:A.lt 200 ew=true:=by rw [hA.lt];exact decide_eq_true h200
   rw [if_pos h200] at hres
   cbv
   repeat' first | exact W1 | (simp only [lt0,lt1,k2,k3,k4,k5,k6,k7,k8,k10,l00,v0,w0,vlr,<-hew,vw];cbv) | refine WA ?_ ?_ | with_reducible intro hcc | refine WS ?_ | ((with_reducible refine hA.st [_,_,_,_,_,_,_] _ _ _ _ ⟨?_,fun ds hds=>?_⟩);rotate_left;subst hds;cbv) | (refine hA.RowE hi q1 ?_;cbv) | refine WK hA hP ?_ | ((with_reducible show A.call _ _ _ _ false _ _ _ _);refine callK_no hA (.bool false) ?_;cbv) | refine W6 ?_ | ((with_reducible first | refine hA.Len fun z hz hb=>?_ | refine hA.Off fun b hb=>?_ | refine hA.Plus fun b hb=>?_ | refine hA.gb _ _ fun vb hvb=>?_);cbv) | ((with_reducible first | refine hA.Sto ?_ fun ds hds=>?_ | refine hA.Sapp ?_ fun sl hsl=>?_);rotate_left;cbv) | refine WL ?_ | fail
   all_goals try simp only [hA.sm,n_cast] at *
   all_goals first | omega | trivial | rfl | exact gg1 _ | exact gg2 _ | exact gg3 _ | exact gg4 _ | exact gg5 _ | exact gg6 _ _ | (simp;done) | (rw [hres];done)
  ·have vw:A.lt 200 ew=false:=by rw [hA.lt];exact decide_eq_false h200
   rw [if_neg h200] at hres
   cbv
   repeat' first | exact W1 | (simp only [lt0,lt1,k2,k3,k4,k5,k6,k7,k8,k10,l00,v0,w0,vlr,<-hew,vw];cbv) | refine WA ?_ ?_ | with_reducible intro hcc | refine WS ?_ | ((with_reducible refine hA.st [_,_,_,_,_,_,_] _ _ _ _ ⟨?_,fun ds hds=>?_⟩);rotate_left;subst hds;cbv) | (refine hA.RowE hi q1 ?_;cbv) | refine WK hA hP ?_ | ((with_reducible show A.call _ _ _ _ false _ _ _ _);refine callK_no hA (.bool false) ?_;cbv) | refine W6 ?_ | ((with_reducible first | refine hA.Len fun z hz hb=>?_ | refine hA.Off fun b hb=>?_ | refine hA.Plus fun b hb=>?_ | refine hA.gb _ _ fun vb hvb=>?_);cbv) | ((with_reducible first | refine hA.Sto ?_ fun ds hds=>?_ | refine hA.Sapp ?_ fun sl hsl=>?_);rotate_left;cbv) | refine WL ?_ | fail
   all_goals try simp only [hA.sm,n_cast] at *
   all_goals first | omega | trivial | rfl | exact gg1 _ | exact gg2 _ | exact gg3 _ | exact gg4 _ | exact gg5 _ | exact gg6 _ _ | (simp;done) | (rw [hres];done))
end Go.Proofs.YtfplalbognalkaaGreat.Ab
