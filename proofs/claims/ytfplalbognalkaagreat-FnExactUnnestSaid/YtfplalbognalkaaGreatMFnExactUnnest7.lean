/- Unnest, by the specification and by the program: one pair of contracts, with bounds. -/
import Derived.Test.YtfplalbognalkaaGreatMFnExactUnnest6
set_option linter.unusedSimpArgs false
set_option linter.unusedVariables false
set_option linter.unnecessarySimpa false
set_option linter.constructorNameAsVariable false
set_option maxRecDepth 100000
set_option maxHeartbeats 16000000
namespace Go.Proofs.YtfplalbognalkaaGreat.Ab
open Go
def SmN (n:Nf):Prop:=n.Exs.2.length<=1048576/\cF n<=5000000
theorem cXs_num (q i:Nat) (l:List (List (Int×Int))):cXs (i,numL nX one1 q l)=2 * sumC cO l:=by
 have: ∀(q:Nat) (l:List (List (Int×Int))),sumC cX (numL nX one1 q l)=2 * sumC cO l:=fun q l=>by
  induction l generalizing q with
  | nil=>rfl
  | cons a l ih=>
   simp only [numL,sumC,ih]
   have h1:cX (nX q a)=2 * a.length:=cX_len _
   have h:cO a=a.length:=rfl
   omega
 exact this q l
theorem sumC_app' {α:Type} (c:α->Int): ∀a b:List α,sumC c (a++b)=sumC c a+sumC c b
 | [],b=>by simp [sumC]
 | x::a,b=>by simp only [List.cons_append,sumC,sumC_app' c a b];omega
theorem sum_cols (w:Int) (hw:0<=w):sumC cO (colsE w)=w:=by
 have: ∀l:List Nat,sumC cO (l.map colE)=l.length:=fun l=>by
  induction l with
  | nil=>rfl
  | cons a l ih=>
   simp only [List.map_cons,sumC,ih,List.length_cons]
   have:cO (colE a)=1:=rfl
   omega
 rw [colsE,this,List.length_range]
 omega
theorem smn0 {K T M W L R:Int} :SmN ⟨K,T,M,W,noX,noXs,L,R⟩:=⟨by simp [noXs],by show 6+cX noX+cXs noXs<=5000000;have:cX noX=0:=rfl;have:cXs noXs=0:=rfl;omega⟩
theorem smn1 {K T M W L R:Int} {q:Nat} {e:List (Int×Int)} (h:e.length<=1048576):SmN ⟨K,T,M,W,(q,e),noXs,L,R⟩:=⟨by simp [noXs],by show 6+cX (q,e)+cXs noXs<=5000000;have h1:cX (q,e)=2 * e.length:=cX_len _;have:cXs noXs=0:=rfl;omega⟩
theorem smn_app {l:List Nf} {n:Nf} (h: ∀m∈l,SmN m) (hn:SmN n): ∀m∈l++ [n],SmN m:=fun m hm=>by
 rcases List.mem_append.1 hm with hm | hm
 ·exact h m hm
 ·rw [List.mem_singleton] at hm;subst hm;exact hn
theorem unN_sm {ns:List Pd} (hlen: ∀d∈ns,d.Ex.length<=1048576/\sumC cO d.Exs<=1048576) {ts:List Tb} (pok:Pok ns ts): ∀(n:Nat) (i d w:Int) (s:Nat×List Nf),0<=i->i<ns.length->i<n->Vd ns ts.length (colsOf ts) i w->(∀m∈s.2,SmN m)-> ∀m∈(unN ns (pw ns (colsOf ts)) n i d w s).1.2,SmN m
 | 0,i,d,w,s,h0,_,h,_,_=>by omega
 | n+1,i,d,w,s,h0,h1,h,hv,hs=>by
  have hin:=pok.inp
  obtain ⟨hK1,hKL,hKR⟩:=hin i h0 h1
  have vl:=hv.left hin h0 h1
  have vr:=hv.right hin h0 h1
  have hw0:=hv.1
  have hmem:ns.getD i.toNat default∈ns:=by
   rw [List.getD,List.getElem?_eq_getElem (show i.toNat<ns.length by omega)]
   exact List.getElem_mem _
  have hl':=hlen _ hmem
  have h4:(ns.getD i.toNat default).K=4->w+(ns.getD i.toNat default).Exs.length<=200:=fun h4=>by
   obtain ⟨_,m,b,c⟩:=hv
   have e1:=wS_pw hin m i w h0 h1 c
   have e2:pwF ns (colsOf ts) m i=pw ns (colsOf ts) i:=pwF_fuel hin _ _ _ h0 h1 b (by omega)
   have e3:=pw_eq (cols:=colsOf ts) hin h0 h1
   have e4:=wS_rng c
   have e5:pwN (ns.getD i.toNat default) (colsOf ts) (pw ns (colsOf ts))=(ns.getD i.toNat default).Exs.length:=by
    unfold pwN
    rw [if_neg (by omega),if_neg (by omega),if_pos h4]
   omega
  obtain ⟨K,T,M,Ex,Exs,L,R,q0⟩: ∃K T M Ex Exs L R,ns.getD i.toNat default=⟨K,T,M,Ex,Exs,L,R⟩:=⟨_,_,_,_,_,_,_,rfl⟩
  rw [q0] at hK1 hKL hKR vl vr hl' h4
  simp only at hK1 hKL hKR vl vr hl' h4
  have kl:hasL K=true-> ∀m∈(unN ns (pw ns (colsOf ts)) n L d w s).1.2,SmN m:=fun q=>by
   have:=hKL q
   exact unN_sm hlen pok n L d w s this.1 (by omega) (by omega) (vl q) hs
  have kr:hasL K=true->hasR K=true->depK K=false-> ∀s',(∀m∈s'.2,SmN m)-> ∀m∈(unN ns (pw ns (colsOf ts)) n R d w s').1.2,SmN m:=fun q1 q2 q3 s' hs'=>by
   have h1:=hKR q2
   have:=vr q1 q2
   rw [q3] at this
   exact unN_sm hlen pok n R d w s' h1.1 (by omega) (by omega) this hs'
  have kd:hasL K=true->hasR K=true->depK K=true-> ∀d s',(∀m∈s'.2,SmN m)-> ∀m∈(unN ns (pw ns (colsOf ts)) n R d (w+pw ns (colsOf ts) L) s').1.2,SmN m:=fun q1 q2 q3 d s' hs'=>by
   have h1:=hKR q2
   have:=vr q1 q2
   rw [q3] at this
   exact unN_sm hlen pok n R d _ s' h1.1 (by omega) (by omega) this hs'
  rcases (show K=1\/K=2\/K=3\/K=4\/K=9\/K=5\/K=10\/K=6\/K=7\/K=8 by omega) with rfl | rfl | rfl | rfl | rfl | rfl | rfl | rfl | rfl | rfl
  ·rw [unN_1 q0];exact hs
  ·rw [unN_2 q0];exact smn_app (smn_app hs smn0) smn0
  ·rw [unN_3 q0];exact smn_app (kl rfl) (smn1 hl'.1)
  ·rw [unN_4 q0]
   have h4:=h4 rfl
   refine smn_app (kl rfl) ⟨?_,?_⟩
   ·show (numL nX one1 _ (colsE w++Exs)).length<=1048576
    rw [numL_len,List.length_append]
    have:(colsE w).length=w.toNat:=by simp [colsE]
    omega
   ·show 6+cX noX+cXs (_,numL nX one1 _ (colsE w++Exs))<=5000000
    rw [cXs_num,sumC_app',sum_cols w hw0]
    have:cX noX=0:=rfl
    omega
  ·rw [unN_9 q0];exact smn_app (kl rfl) smn0
  ·rw [unN_5 q0];exact smn_app (kr rfl rfl rfl _ (kl rfl)) smn0
  ·rw [unN_10 q0];exact smn_app (kr rfl rfl rfl _ (kl rfl)) smn0
  ·rw [unN_6 q0];exact smn_app (kd rfl rfl rfl _ _ (smn_app (kl rfl) smn0)) smn0
  ·rw [unN_7 q0];exact smn_app (kd rfl rfl rfl _ _ (smn_app (kl rfl) smn0)) (smn1 hl'.1)
  ·rw [unN_8 q0];exact smn_app (kd rfl rfl rfl _ _ (smn_app (kl rfl) smn0)) (smn1 hl'.1)
theorem sumC_all {α:Type} {c:α->Int} {b:Int} : ∀ {l:List α},(∀a∈l,c a<=b)->sumC c l<=b * l.length
 | [],_=>by simp [sumC]
 | a::l,h=>by
  have h1:=h a (by simp)
  have h2:=sumC_all (l:=l) fun x hx=>h x (by simp [hx])
  simp only [sumC,List.length_cons]
  rw [show b * ((l.length+1:Nat):Int)=b * l.length+b by rw [Int.natCast_add,Int.mul_add];simp]
  omega
theorem unit_ok:NumOk [⟨1,0,0,0,noX,noXs,0,0⟩] 0:=⟨List.nodup_nil,fun n h=>by cases h⟩
theorem unN_hd {ns:List Pd} (wl:Int->Int): ∀(n:Nat) (i d w:Int) (s:Nat×List Nf) (a:Nf),s.2.head?=some a->(unN ns wl n i d w s).1.2.head?=some a
 | 0,i,d,w,s,a,h=>h
 | n+1,i,d,w,s,a,h=>by
  have app: ∀(l:List Nf) (b:Nf),l.head?=some a->(l++ [b]).head?=some a:=fun l b q=>by
   cases l with
   | nil=>cases q
   | cons x l=>exact q
  simp only [unN]
  have hp:=unN_hd (ns:=ns) wl n (ns.getD i.toNat default).L d w s a h
  have hq:=unN_hd (ns:=ns) wl n (ns.getD i.toNat default).R d w _ a hp
  have hq2:=unN_hd (ns:=ns) wl n (ns.getD i.toNat default).R (unN ns wl n (ns.getD i.toNat default).L d w s).1.2.length (w+wl (ns.getD i.toNat default).L) ((unN ns wl n (ns.getD i.toNat default).L d w s).1.1,(unN ns wl n (ns.getD i.toNat default).L d w s).1.2++ [⟨8,0,0,0,noX,noXs,(unN ns wl n (ns.getD i.toNat default).L d w s).2,0⟩]) a (app _ _ hp)
  repeat' split
  all_goals first
   | exact h
   | exact app _ _ (app _ _ h)
   | exact app _ _ hp
   | exact app _ _ hq
   | exact app _ _ hq2
theorem un_both (ns:List Pd) (x:List (List E)) (hx:x=ns.map pdr) (ts:List Tb) (xt:List (List E)) (hxt:xt=ts.map tbr) (hxl:x.length<=1048576) (hlen: ∀d∈ns,d.Ex.length<=1048576/\d.Exs.length<=1048576/\ ∀e∈d.Exs,e.length<=1048576) (hsz:cTS ts<=1048576) (hsp:cPS ns<=1048576):
  ∃(b:Bool) (os:List Fd) (ro:Int) (L:List Nf) (ql qe:Nat),
   Plain Tryz.prog 8 [.agg [.e (.sl x)],.agg [.e (.sl xt)]] (.tup [.agg [.e (.sl (os.map fdr)),.int ro],.bool b])/\
   Proc Tryz.prog 11 (fun _=> [.agg [.e (.sl x)],.agg [.e (.sl xt)]]) (fun _=> [.ids 0]) (fun _=> .tup [.agg [.e (eFs ql L),.int ro],.bool b]) (fun _=> [.ids qe])/\
   L.map Nf.d=os/\(∃ns,(eFs ql L).nums=some ns/\ns.Nodup)/\L.length<=1048576/\(∀n∈L,n.Exs.2.length<=1048576)/\sumC cF L<=100000000000/\okV (.int .i64 ro)=true:=by
 have h216:=ok33 ns x hx hxl hlen ts xt hxt hsz _ _ rfl rfl
 have h245:=ok37 ns x hx hxl hlen ts xt hxt hsz
 have hrw:=root_w ns ts
 by_cases hv:planW ns ts<0
 ·rw [if_pos hv] at hrw
  have hr:rootO ns ts=none:=by
   cases h:rootO ns ts with
   | none=>rfl
   | some o=>rw [h] at hrw;cases hrw
  rw [hr] at h245
  rw [decide_eq_true hv] at h216
  exact ⟨false, [],0, [],0,0,ok8f x xt _ h216,n415f x xt h245,rfl,⟨[],rfl,List.nodup_nil⟩,by simp,fun n h=>(by cases h),by simp [sumC],rfl⟩
 ·rw [if_neg hv] at hrw
  obtain ⟨o,ho⟩: ∃o,rootO ns ts=some o:=by
   cases h:rootO ns ts with
   | none=>rw [h] at hrw;cases hrw
   | some o=>exact ⟨o,rfl⟩
  rw [ho] at h245
  have h245:Plain Tryz.prog 37 [.agg [.e (.sl x)],.agg [.e (.sl xt)]] (.e (.ia o.T o.cs)):=by
   have:=h245
   rw [show optE (some o)=o.E from rfl,Ot.E_eq] at this
   exact this
  rw [decide_eq_false hv] at h216
  have pok:=pok_of (ns:=ns) (ts:=ts) (by omega)
  have hnl:=pok.len
  have hxn:x.length=ns.length:=by rw [hx,List.length_map]
  have hor:=pok.ord
  simp only [ordOk,Bool.and_eq_true,decide_eq_true_eq] at hor
  have hfr:fr ns ((ns.length:Int)-1).toNat=0:=by rw [show ((ns.length:Int)-1).toNat=ns.length-1 by omega];exact hor.2
  have vd:Vd ns ts.length (colsOf ts) ((ns.length:Int)-1) 0:=by
   refine ⟨Int.le_refl _,ns.length,by omega,?_⟩
   have:0<=planW ns ts:=by omega
   rw [planW,if_pos ⟨pok.db,pok.ord⟩] at this
   exact this
  obtain ⟨U0,hU0⟩: ∃u:Fd,u=⟨1,0,0,0, [], [],0,0⟩:=⟨_,rfl⟩
  obtain ⟨N0,hN0⟩: ∃u:Nf,u=⟨1,0,0,0,noX,noXs,0,0⟩:=⟨_,rfl⟩
  have hs:=us_ok hx hlen hxt pok ns.length ((ns.length:Int)-1) 0 0 [U0] (by omega) (by omega) (by omega) (by omega) (by simp) (by rw [hfr];simp;omega) vd
  have hi:=ui_ok hx hlen pok rfl rws rws_len rws_app ns.length ((ns.length:Int)-1) 0 0 (0, [N0]) (by omega) (by omega) (by omega) (by omega) (by simp) (by rw [hfr];simp;omega) vd
  have hd:=unN_d (pw ns (colsOf ts)) pok.inp pok.used ns.length ((ns.length:Int)-1) 0 0 (0, [N0]) (by omega) (by omega) (by omega)
  have hok:=unN_ok (ns:=ns) (pw ns (colsOf ts)) ns.length ((ns.length:Int)-1) 0 0 (0, [N0]) (by rw [hN0];exact unit_ok)
  have hsm:=unN_sm (ns:=ns) (fun d hd=>⟨(hlen d hd).1,by
   have h1:=sumC_mem cPd_nonneg hd
   have h2:cPS ns=ns.length+sumC cPd ns:=rfl
   have h3:cPd d=cO d.Ex+cOS d.Exs:=rfl
   have h4:=cO_nonneg d.Ex
   have h5:cOS d.Exs=d.Exs.length+sumC cO d.Exs:=rfl
   omega⟩) pok ns.length ((ns.length:Int)-1) 0 0 (0, [N0]) (by omega) (by omega) (by omega) vd (fun m hm=>by simp only [List.mem_singleton] at hm;rw [hm,hN0];exact smn0)
  have hhd:=unN_hd (ns:=ns) (pw ns (colsOf ts)) ns.length ((ns.length:Int)-1) 0 0 (0, [N0]) N0 rfl
  have hlf:=unF_len (ns:=ns) (pw ns (colsOf ts)) ns.length ((ns.length:Int)-1) 0 0 [U0] (by omega) (by omega) (by rw [hfr];omega) (by omega) (by simp)
  have hND:Nf.d N0=U0:=by rw [hN0,hU0];rfl
  simp only [List.map_cons,List.map_nil,hND] at hd
  rw [hfr] at hlf
  obtain ⟨r,hr⟩: ∃r,r=unN ns (pw ns (colsOf ts)) ns.length ((ns.length:Int)-1) 0 0 (0, [N0]):=⟨_,rfl⟩
  obtain ⟨f,hf⟩: ∃r,r=unF ns (pw ns (colsOf ts)) ns.length ((ns.length:Int)-1) 0 0 [U0]:=⟨_,rfl⟩
  rw [<-hr] at hi hd hok hsm hhd
  rw [<-hf] at hs hd hlf
  obtain ⟨⟨q,L⟩,ro⟩:=r
  obtain ⟨os,ro'⟩:=f
  simp only at hi hd hok hsm hhd hs hlf
  obtain ⟨hd1,hd2⟩:=hd
  subst hd2
  obtain ⟨L',rfl⟩: ∃L',L=N0::L':=by
   cases L with
   | nil=>cases hhd
   | cons a L'=>simp only [List.head?_cons,Option.some.injEq] at hhd;subst hhd;exact ⟨L',rfl⟩
  have hLl:(N0::L').length=os.length:=by rw [<-hd1,List.length_map]
  simp only [List.length_cons,List.length_nil] at hlf
  have hU: [U0].map fdr= [unit0]:=by rw [hU0];rfl
  have hN:rws [N0]= [unit0]:=rfl
  have hU1:([U0]:List Fd).length=1:=rfl
  have hN1:([N0]:List Nf).length=1:=rfl
  have hN2:rws (N0::L')=unit0::L'.map nfr:=rfl
  rw [hU,hU1] at hs
  rw [hN,hN1,hN2] at hi
  have h424:=ok38 ns x hx ts xt hxt pok (fun d hd=>(hlen d hd).2.1) _ rfl
  have c1:=ok8t x xt _ ((ns.length:Int)-1) (by rw [hxn]) (by omega) h216 _ _ _ hs
  have c2:=n415t x xt _ ((ns.length:Int)-1) (by rw [hxn]) (by omega) o.T o.cs h245 h424 q (L'.map nfr) (fun e he=>by obtain ⟨p,_,rfl⟩:=List.mem_map.1 he;rfl) (N0::L').length (by simp) ro hi
  have hE:E.fs q (unitN::L'.map nfr)=eFs q (N0::L'):=by rw [hN0];rfl
  rw [hE] at c2
  refine ⟨true,os,ro,N0::L',q,q+1,c1,c2,hd1,eFs_nums hok (Nat.le_refl _),by omega,fun n hn=>(hsm n hn).1,?_,NS.okV_int (by omega) (by omega)⟩
  have:=sumC_all (c:=cF) (b:=5000000) (l:=N0::L') fun n hn=>(hsm n hn).2
  omega
end Go.Proofs.YtfplalbognalkaaGreat.Ab
/- The program's simplified plans, walked. -/
namespace Go.Proofs.YtfplalbognalkaaGreat.Ab
open Go
end Go.Proofs.YtfplalbognalkaaGreat.Ab
/- The program's simplified plans: invalid plans; what the nodes are. -/
namespace Go.Proofs.YtfplalbognalkaaGreat.Ab
open Go
end Go.Proofs.YtfplalbognalkaaGreat.Ab
/- The program's simplified plans: what it hands back for a valid plan. -/
namespace Go.Proofs.YtfplalbognalkaaGreat.Ab
open Go
end Go.Proofs.YtfplalbognalkaaGreat.Ab
/- The law of FlatOk. -/
namespace Go.Proofs.YtfplalbognalkaaGreat.Ab
open Go
end Go.Proofs.YtfplalbognalkaaGreat.Ab
/- What holds of a valid plan. -/
namespace Go.Proofs.YtfplalbognalkaaGreat.Ab
open Go
end Go.Proofs.YtfplalbognalkaaGreat.Ab
/- How many marks the nodes take. -/
namespace Go.Proofs.YtfplalbognalkaaGreat.Ab
open Go
end Go.Proofs.YtfplalbognalkaaGreat.Ab
/- Structs that hold a tree: what they are as values. -/
namespace Go.Proofs.YtfplalbognalkaaGreat.Ab
open Go
theorem hd_agg1 {i:Nat} (w:World) (G:Gh) (h:Hp) (v:Value) (r:Rv w G h v (.agg [.rv i])):v= .agg #[G.rv i]:=by
 cases r with
 | @agg cs _ hl h1 hr=>
  have hl':cs.size=1:=by simpa using hl
  have a0:cs[0]=G.rv i:=NS.rv_id (hr 0 cs[0] (.rv i) (by simp [hl']) rfl)
  congr 1
  refine Array.ext (by simp [hl']) fun j hj _=>?_
  have:j=0:=by omega
  subst this
  exact a0
theorem hd_agg2 {i:Nat} {rt:Int} (w:World) (G:Gh) (h:Hp) (v:Value) (r:Rv w G h v (.agg [.rv i,.int rt])):v= .agg #[G.rv i,.int .i64 rt]:=by
 cases r with
 | @agg cs _ hl h1 hr=>
  have hl':cs.size=2:=by simpa using hl
  have a0:cs[0]=G.rv i:=NS.rv_id (hr 0 cs[0] (.rv i) (by simp [hl']) rfl)
  have a1:cs[1]= .int .i64 rt:=by
   have:=rv_e (hr 1 cs[1] (.int rt) (by simp [hl']) rfl)
   generalize cs[1]=c at this
   cases this with
   | v _=>rfl
  congr 1
  refine Array.ext (by simp [hl']) fun j hj _=>?_
  have:j=0\/j=1:=by omega
  rcases this with rfl | rfl
  ·exact a0
  ·exact a1
end Go.Proofs.YtfplalbognalkaaGreat.Ab
/- The numbers in copied tables. -/
namespace Go.Proofs.YtfplalbognalkaaGreat.Ab
open Go
theorem t_nums (q:Nat) (t:Tb): ∃ns,(eRs (nT q t).2.2).nums=some ns/\ns.Nodup/\ ∀k∈ns,q<=k/\k<q+sT t:=by
 obtain ⟨ns,h1,h2⟩:=NS.nums_rows (NS.nums q t.2.2)
 rw [NS.nums_fst] at h2
 have h3: ∀k∈ns,q<=k/\k<q+t.2.2.length:=fun k hk=>by
  have:=h2.subset hk
  rw [List.mem_range'_1] at this
  exact this
 have h4:(eRs (nT q t).2.2)= .fs (q+t.2.2.length) ((NS.nums q t.2.2).map NS.nrow):=rfl
 rw [h4]
 by_cases hn:(NS.nums q t.2.2).map NS.nrow= []
 ·rw [hn]
  exact ⟨[],rfl,List.nodup_nil,fun k hk=>by cases hk⟩
 ·refine ⟨(q+t.2.2.length)::ns,by rw [NS.nums_ne hn,h1];rfl,List.nodup_cons.2 ⟨fun h=>?_,(List.nodup_range' (s:=q)).sublist h2⟩,fun k hk=>?_⟩
  ·have:=h3 _ h;omega
  ·unfold sT
   rcases List.mem_cons.1 hk with rfl | hk
   ·omega
   ·have:=h3 k hk;omega
theorem ts_nums (q:Nat): ∀ts:List Tb,∃ns,numss ((numL nT sT q ts).map ntr)=some ns/\ns.Nodup/\ ∀k∈ns,q<=k/\k<q+sumN sT ts
 | []=>⟨[],rfl,List.nodup_nil,fun k hk=>by cases hk⟩
 | t::ts=>by
  obtain ⟨a,a1,a2,a3⟩:=t_nums q t
  obtain ⟨b,b1,b2,b3⟩:=ts_nums (q+sT t) ts
  refine ⟨a++b,?_,List.nodup_append.2 ⟨a2,b2,fun x hx y hy=>?_⟩,fun k hk=>?_⟩
  ·simp only [numL,List.map_cons,numss,numsr,a1,b1,E.nums,List.nil_append,List.append_nil]
  ·have:=a3 x hx;have:=b3 y hy;omega
  ·simp only [sumN]
   rcases List.mem_append.1 hk with hk | hk
   ·have:=a3 k hk;omega
   ·have:=b3 k hk;omega
theorem eTs_nums (q i:Nat) (ts:List Tb) (hi:q+sumN sT ts<=i): ∃ns,(eTs i (numL nT sT q ts)).nums=some ns/\ns.Nodup:=by
 obtain ⟨ns,h1,h2,h3⟩:=ts_nums q ts
 unfold eTs
 by_cases hn:(numL nT sT q ts).map ntr= []
 ·rw [hn]
  exact ⟨[],rfl,List.nodup_nil⟩
 ·refine ⟨i::ns,by rw [NS.nums_ne hn,h1];rfl,List.nodup_cons.2 ⟨fun h=>?_,h2⟩⟩
  have:=h3 i h;omega
theorem eTs_un (i:Nat) (l:List Nt):(eTs i l).un= .sl (l.map fun n=>tbr n.t):=by
 rw [eTs,E.un,unss_map,List.map_map]
 congr 1
 refine List.map_congr_left fun r _=>?_
 have:(eRs r.2.2).un= .sl (r.2.2.2.map fun r=>rsr r.2):=NS.un_rows _ _
 simp only [Function.comp,List.map_cons,List.map_nil,this,Nt.t,tbr]
 rw [List.map_map]
 rfl
theorem nT_t (q:Nat) (t:Tb):(nT q t).t=t:=by
 show (t.1,t.2.1,(NS.nums q t.2.2).map Prod.snd)=t
 rw [NS.nums_snd]
theorem numT_t (q:Nat): ∀ts:List Tb,(numL nT sT q ts).map Nt.t=ts
 | []=>rfl
 | t::ts=>by rw [numL,List.map_cons,nT_t,numT_t _ ts]
theorem cNts_le (q:Nat): ∀ts:List Tb,sumC cNt (numL nT sT q ts)<=2 * (ts.length+sumC (fun t=>sumC cV t.2.2) ts)
 | []=>by simp [numL,sumC]
 | t::ts=>by
  have h1:=cNts_le (q+sT t) ts
  have h2:NS.cnt (NS.nums q t.2.2)<=2 * sumC cV t.2.2:=NS.cnt_sum _ _ (NS.nums_snd q t.2.2)
  have h3:cNt (nT q t)=2+NS.cnt (NS.nums q t.2.2):=rfl
  simp only [numL,sumC,List.length_cons]
  omega
end Go.Proofs.YtfplalbognalkaaGreat.Ab
/- The law of Unnest, walked. -/
namespace Go.Proofs.YtfplalbognalkaaGreat.Ab
open Go
def c3:F:=⟨119, [(.tmp 4)],(.seq (.reg [ZA 2 (.box 0),ZA 3 (.box 1),ZA 4 ZF0]) (.seq (.reg [ZA 5 (.mov (.c (.int 1048576)))]) (.seq (.reg [ZA 17 (.load true 1 2),ZM 18 5,ZC 19 6 [17,18],ZM 5 19]) (.seq (.seq (.reg [ZM 20 5,ZA 21 (.bin .lss 20 (.c (.int 0)))]) (.cond 21 (.seq (.reg [ZA 4 ZT0]) .ret) .skip)) (.seq (.reg [ZA 22 (.load true 1 3),ZM 23 5,ZC 24 7 [22,23],ZM 5 24]) (.seq (.seq (.reg [ZM 25 5,ZA 26 (.bin .lss 25 (.c (.int 0)))]) (.cond 26 (.seq (.reg [ZA 4 ZT0]) .ret) .skip)) (.seq (.dreg [⟨ZA 28 (.load true 1 2), [], [2]⟩,⟨ZC 29 9 [28], [], [28]⟩,⟨ZA 30 (.load true 1 3), [0,1], [3]⟩,⟨ZC 31 10 [30], [], [30]⟩,⟨ZC 32 8 [29,31], [], [29,31]⟩,⟨ZM 27 32, [], [32]⟩,⟨ZA 33 (.ext 0 27), [], [27]⟩,⟨ZA 34 (.ext 1 27), [6], [27]⟩,⟨ZA 6 (.alloc [(.e (.sl [])),(.int 0)]), [0,1,2,3,4,5,6,7], []⟩,⟨ZN (.store true 2 6 33), [7], [6,33]⟩,⟨ZM 7 34, [], [34]⟩]) (.seq (.reg [ZA 35 (.load true 1 2),ZC 36 9 [35],ZA 8 (.alloc [(.e (.sl []))]),ZN (.store true 1 8 36)]) (.seq (.reg [ZA 37 (.load true 1 3),ZC 38 10 [37],ZA 9 (.alloc [(.e (.sl []))]),ZN (.store true 1 9 38)]) (.seq (.reg [ZA 40 (.load true 1 8),ZA 41 (.load true 1 9),ZC 42 11 [40,41],ZM 39 42,ZA 43 (.ext 0 39),ZA 44 (.ext 1 39),ZA 10 (.alloc [(.e (.sl [])),(.int 0)]),ZN (.store true 2 10 43),ZM 11 44]) (.seq (.seq (.reg [ZA 45 (.load true 2 10),ZA 46 (.load true 2 6),ZC 47 12 [45,46],ZA 48 (.un .not 47),ZM 49 48,ZF 50 49 (.mov 11),ZF 51 49 (.mov 7),ZF 52 49 (.binb .neq 50 51),ZA 53 (.pick 49 (.c (.bool true)) 52)]) (.cond 53 (.seq (.reg [ZA 4 ZF0]) .ret) .skip)) (.seq (.seq (.dreg [⟨ZA 54 (.load true 1 8), [], [8]⟩,⟨ZA 55 (.load true 1 2), [0], [2]⟩,⟨ZC 56 9 [55], [0], [55]⟩,⟨ZC 57 13 [54,56], [], [54,56]⟩,⟨ZA 58 (.un .not 57), [], [57]⟩]) (.cond 58 (.seq (.reg [ZA 4 ZF0]) .ret) .skip)) (.seq (.seq (.dreg [⟨ZA 59 (.load true 1 9), [], [9]⟩,⟨ZA 60 (.load true 1 3), [0], [3]⟩,⟨ZC 61 10 [60], [0], [60]⟩,⟨ZC 62 14 [59,61], [], [59,61]⟩,⟨ZA 63 (.un .not 62), [], [62]⟩]) (.cond 63 (.seq (.reg [ZA 4 ZF0]) .ret) .skip)) (.seq (.reg [ZA 12 (.mov (.c (.int 1)))]) (.seq (.reg [ZA 64 (.load true 1 8),ZM 65 12,ZC 66 15 [64,65],ZM 12 66]) (.seq (.reg [ZA 67 (.load true 1 9),ZM 68 12,ZC 69 16 [67,68],ZM 12 69]) (.seq (.seq (.reg [ZM 70 12,ZA 71 (.bin .lss 70 (.c (.int 0))),ZM 72 71,ZF 73 72 (.load true 2 10),ZF 74 72 (.load true 2 6),ZF 75 72 (.call 12 [73,74]),ZF 76 72 (.un .not 75),ZA 77 (.pick 72 (.c (.bool true)) 76),ZM 78 77,ZF 79 78 (.mov 11),ZF 80 78 (.mov 7),ZF 81 78 (.binb .neq 79 80),ZA 82 (.pick 78 (.c (.bool true)) 81)]) (.cond 82 (.seq (.reg [ZA 4 ZF0]) .ret) .skip)) (.seq (.reg [ZA 13 (.mov (.c (.int 1)))]) (.seq (.reg [ZA 83 (.load true 2 10),ZM 84 13,ZC 85 17 [83,84],ZM 13 85]) (.seq (.reg [ZA 14 (.mov (.c (.int 1)))]) (.seq (.reg [ZA 86 (.load true 2 10),ZM 87 14,ZC 88 18 [86,87],ZM 14 88]) (.seq (.seq (.reg [ZM 89 14,ZA 90 (.bin .lss 89 (.c (.int 0)))]) (.cond 90 (.seq (.reg [ZA 4 ZF0]) .ret) .skip)) (.seq (.seq (.reg [ZM 91 14,ZM 92 13,ZA 93 (.bin .neq 91 92)]) (.cond 93 (.seq (.reg [ZA 4 ZF0]) .ret) .skip)) (.seq (.dreg [⟨ZA 95 (.load true 1 2), [], [2]⟩,⟨ZC 96 9 [95], [], [95]⟩,⟨ZA 97 (.load true 1 3), [0,1], [3]⟩,⟨ZC 98 10 [97], [], [97]⟩,⟨ZC 99 11 [96,98], [], [96,98]⟩,⟨ZM 94 99, [], [99]⟩,⟨ZA 100 (.ext 0 94), [], [94]⟩,⟨ZA 101 (.ext 1 94), [6], [94]⟩,⟨ZA 15 (.alloc [(.e (.sl [])),(.int 0)]), [0,1,2,3,4,5,6,7], []⟩,⟨ZN (.store true 2 15 100), [7], [15,100]⟩,⟨ZM 16 101, [], [101]⟩]) (.seq (.seq (.reg [ZA 102 (.load true 2 15),ZA 103 (.load true 2 6),ZC 104 12 [102,103],ZA 105 (.un .not 104),ZM 106 105,ZF 107 106 (.mov 16),ZF 108 106 (.mov 7),ZF 109 106 (.binb .neq 107 108),ZA 110 (.pick 106 (.c (.bool true)) 109)]) (.cond 110 (.seq (.reg [ZA 4 ZF0]) .ret) .skip)) (.seq (.reg [ZA 14 (.mov (.c (.int 1)))]) (.seq (.reg [ZA 111 (.load true 2 10),ZM 112 14,ZC 113 18 [111,112],ZM 14 113]) (.seq (.seq (.reg [ZM 114 14,ZA 115 (.bin .lss 114 (.c (.int 0)))]) (.cond 115 (.seq (.reg [ZA 4 ZF0]) .ret) .skip)) (.seq (.seq (.reg [ZM 116 14,ZM 117 13,ZA 118 (.bin .neq 116 117)]) (.cond 118 (.seq (.reg [ZA 4 ZF0]) .ret) .skip)) (.seq (.reg [ZA 4 ZT0]) .ret))))))))))))))))))))))))))))))⟩
theorem p3:prepF Tryz.prog 3=some c3:=by kernel_rfl
theorem sumC_mono {α:Type} {f g:α->Int} (h: ∀a,f a<=g a): ∀l:List α,sumC f l<=sumC g l
 | []=>Int.le_refl _
 | a::l=>by
  have:=h a
  have:=sumC_mono h l
  simp only [sumC]
  omega
theorem numP_x {q:Nat} {ns:List Pd} (h: ∀d∈ns,d.Exs.length<=1048576): ∀n∈numL nP sP q ns,n.Exs.2.length<=1048576:=fun n hn=>by
 have h1:n.d∈ns:=by rw [<-numP_d q ns];exact List.mem_map_of_mem hn
 have h2:n.d.Exs.length=n.Exs.2.length:=by simp [Np.d]
 have:=h _ h1
 omega
theorem numT_x {q:Nat} {ts:List Tb} (h: ∀t∈ts,t.2.2.length<=1048576): ∀n∈numL nT sT q ts,n.2.2.2.length<=1048576:=fun n hn=>by
 have h1:n.t∈ts:=by rw [<-numT_t q ts];exact List.mem_map_of_mem hn
 have h2:n.t.2.2.length=n.2.2.2.length:=by simp [Nt.t]
 have:=h _ h1
 omega
theorem ok3 (ns:List Pd) (x:List (List E)) (hx:x=ns.map pdr) (ts:List Tb) (xt:List (List E)) (hxt:xt=ts.map tbr):
  Plain Tryz.prog 3 [.agg [.e (.sl x)],.agg [.e (.sl xt)]] (.bool true):=okOf mixed p3 fun A P hA hP=>(by
 have h1:=ok6 ns x hx 1048576 (by omega)
 have n0:0<=cPS ns:=by have:=sumC_nonneg cPd_nonneg ns;unfold cPS;omega
 by_cases c1:(1048576:Int)-cPS ns<0
 ·rw [show cut 1048576 (cPS ns)= -1 by unfold cut;rw [if_pos c1]] at h1
  cbv
  repeat' first | exact W1 | refine WA ?_ ?_ | with_reducible intro hcc | refine WS ?_ | refine WK hA hP ?_ | refine W6 ?_ | ((with_reducible first | refine hA.gb _ _ fun vb hvb=>?_);cbv) | ((with_reducible first | refine hA.Sto ?_ fun ds hds=>?_);rotate_left;cbv) | refine WL ?_ | fail
  all_goals try simp only [hA.sm,n_cast] at *
  all_goals grind
 rw [show cut 1048576 (cPS ns)=1048576-cPS ns by unfold cut;rw [if_neg c1]] at h1
 obtain ⟨a,ha⟩: ∃a:Int,a=1048576-cPS ns:=⟨_,rfl⟩
 rw [<-ha] at h1
 have e1:A.lt a 0=false:=by rw [hA.lt];exact decide_eq_false (by omega)
 have h2:=ok7 ts xt hxt a (by omega)
 by_cases c2:a-cTS ts<0
 ·rw [show cut a (cTS ts)= -1 by unfold cut;rw [if_pos c2]] at h2
  cbv
  repeat' first | exact W1 | (simp only [e1];cbv) | refine WA ?_ ?_ | with_reducible intro hcc | refine WS ?_ | refine WK hA hP ?_ | refine W6 ?_ | ((with_reducible first | refine hA.gb _ _ fun vb hvb=>?_);cbv) | ((with_reducible first | refine hA.Sto ?_ fun ds hds=>?_);rotate_left;cbv) | refine WL ?_ | fail
  all_goals try simp only [hA.sm,n_cast] at *
  all_goals grind
 rw [show cut a (cTS ts)=a-cTS ts by unfold cut;rw [if_neg c2]] at h2
 obtain ⟨c,hc⟩: ∃c:Int,c=a-cTS ts:=⟨_,rfl⟩
 rw [<-hc] at h2
 have e2:A.lt c 0=false:=by rw [hA.lt];exact decide_eq_false (by omega)
 have hsz:cTS ts<=1048576:=by omega
 have hsf:cPS ns<=1048576:=by have:=cTS_nonneg ts;omega
 obtain ⟨s1,s2⟩:=sz_in' hsz
 obtain ⟨s3,s4⟩:=plan_in (ns:=ns) hsf
 have hxl:x.length<=1048576:=by rw [hx,List.length_map];exact s3
 have h217:=ok9 ns x hx s3 s4
 have h37:=ok10 ts xt hxt s1 s2
 obtain ⟨b,os,ro,L,ql,qe,h222,h223,hos,⟨nL,hLn,hLd⟩,hLl,hLx,hLs,hroV⟩:=un_both ns x hx ts xt hxt hxl s4 hsz hsf
 have t217:=m217 0 ns x hx s3 s4
 have t37:=m37 0 ts xt hxt s1 s2
 obtain ⟨nX,hXn,hXd⟩:=ePs_nums 0 (0+sumN sP ns) ns (Nat.le_refl _)
 obtain ⟨nT1,hTn,hTd⟩:=eTs_nums 0 (0+sumN sT ts) ts (Nat.le_refl _)
 have kF:=cPs_le 0 ns
 have kT:=cNts_le 0 ts
 have kT2:sumC (fun t:Tb=>sumC cV t.2.2) ts<=sumC cT ts:=sumC_mono (fun t=>by unfold cT cSS;omega) ts
 have kF2:cPS ns=ns.length+sumC cPd ns:=rfl
 have kT3:cTS ts=ts.length+sumC cT ts:=rfl
 have pF:=sumC_nonneg cP_nonneg (numL nP sP 0 ns)
 have pT:=sumC_nonneg cNt_nonneg (numL nT sT 0 ts)
 have pL:=sumC_nonneg cF_nonneg L
 obtain ⟨k0,hk0⟩: ∃k,k=1+sumC cP (numL nP sP 0 ns):=⟨_,rfl⟩
 obtain ⟨k1,hk1⟩: ∃k,k=k0+sumC cNt (numL nT sT 0 ts):=⟨_,rfl⟩
 obtain ⟨k2,hk2⟩: ∃k,k=1+sumC cF L:=⟨_,rfl⟩
 have m1:=mark416 (0+sumN sP ns) (numL nP sP 0 ns) 1 (by omega) (by omega) (by rw [numL_len];exact s3) (numP_x fun d hd=>(s4 d hd).2.1)
 have m2:=mark225 (0+sumN sT ts) (numL nT sT 0 ts) k0 (by omega) (by omega) (by rw [numL_len];exact s1) (numT_x fun t ht=>(s2 t ht).1)
 have m3:=mark224 ql L ro 1 hroV (by omega) (by omega) hLl hLx
 have q4:=ok18 ql L ro 1 (by omega) (by omega)
 rw [<-hk0] at m1
 rw [<-hk1] at m2
 rw [<-hk2] at m3 q4
 have uX:(ePs (0+sumN sP ns) (numL nP sP 0 ns)).un= .sl x:=by
  rw [ePs_un,hx,show (numL nP sP 0 ns).map (fun n=>pdr n.d)=((numL nP sP 0 ns).map Np.d).map pdr by rw [List.map_map];rfl,numP_d]
 have uT:(eTs (0+sumN sT ts) (numL nT sT 0 ts)).un= .sl xt:=by
  rw [eTs_un,hxt,show (numL nT sT 0 ts).map (fun n=>tbr n.t)=((numL nT sT 0 ts).map Nt.t).map tbr by rw [List.map_map];rfl,numT_t]
 have uL:(eFs ql L).un= .sl (os.map fdr):=by
  rw [eFs_un,<-hos,List.map_map];rfl
 obtain ⟨xo,hxo⟩: ∃y,y=os.map fdr:=⟨_,rfl⟩
 rw [<-hxo] at h222 uL
 have e3:A.lt k1 0=false:=by rw [hA.lt];exact decide_eq_false (by omega)
 have e4:A.lt k2 0=false:=by rw [hA.lt];exact decide_eq_false (by omega)
 have e5:A.eq k2 k2=true:=by rw [hA.eq];exact decide_eq_true rfl
 have q1:=ok12 os os ro ro xo xo hxo hxo
 rw [decide_eq_true rfl,decide_eq_true rfl] at q1
 have q2:=ok13 ns ns x x hx hx
 rw [decide_eq_true rfl] at q2
 have q3:=ok14 ts ts xt xt hxt hxt
 rw [decide_eq_true rfl] at q3
 have xu:(E.sl x).un= .sl x:=by rw [<-uX];exact (E.un_un _)
 have xtu:(E.sl xt).un= .sl xt:=by rw [<-uT];exact (E.un_un _)
 have xou:(E.sl xo).un= .sl xo:=by rw [<-uL];exact (E.un_un _)
 obtain ⟨X0,hX0⟩: ∃X,X=ePs (0+sumN sP ns) (numL nP sP 0 ns):=⟨_,rfl⟩
 obtain ⟨X1,hX1⟩: ∃X,X=eTs (0+sumN sT ts) (numL nT sT 0 ts):=⟨_,rfl⟩
 obtain ⟨X2,hX2⟩: ∃X,X=eFs ql L:=⟨_,rfl⟩
 obtain ⟨X0',hX0'⟩: ∃X,X=ePs (0+sumN sP ns) (mkL mkP cP 1 (numL nP sP 0 ns)):=⟨_,rfl⟩
 obtain ⟨X1',hX1'⟩: ∃X,X=eTs (0+sumN sT ts) (mkL mkT cNt k0 (numL nT sT 0 ts)):=⟨_,rfl⟩
 obtain ⟨X2',hX2'⟩: ∃X,X=eFs ql (mkL mkF cF 1 L):=⟨_,rfl⟩
 obtain ⟨m0,hm0⟩: ∃m,m=0+sumN sP ns+1:=⟨_,rfl⟩
 obtain ⟨m9,hm9⟩: ∃m,m=0+sumN sT ts+1:=⟨_,rfl⟩
 rw [<-hX0,<-hm0] at t217
 rw [<-hX1,<-hm9] at t37
 rw [<-hX2] at h223 hLn uL
 rw [<-hX0] at hXn uX
 rw [<-hX1] at hTn uT
 rw [<-hX0,<-hX0'] at m1
 rw [<-hX1,<-hX1'] at m2
 rw [<-hX2,<-hX2'] at m3
 rw [<-hX2'] at q4
 clear hX0 hX1 hX2 hX0' hX1' hX2' hm0 hm9 hk0 hk1 hk2 pF pT pL kF kT kT2 kF2 kT3 hLl hLx hLs hroV hos hxo ha hc c1 c2 s1 s2 s3 s4 hx hxt n0 hsz hsf hxl
 have once:True:=trivial
 have once2:True:=trivial
 have aF: ∀ {h:Hp} {i:Nat} {R:Int} {X:E} {y:List (List E)} {l:List Nat},i∈l->h i= .res (Tree X)->X.un= .sl y->LentT h l (.agg [.rv i,.int R]) (.agg [.e (.sl y),.int R]):=fun {h i R X y l} a b e=> .agg rfl fun j d c h1 h2=>by
  match j with
  | 0=>cases h1;cases h2;rw [<-e];exact .rv a b
  | 1=>cases h1;cases h2;exact .e rfl
  | j+2=>simp at h1
 have aT: ∀ {h:Hp} {i:Nat} {X:E} {y:List (List E)} {l:List Nat},i∈l->h i= .res (Tree X)->X.un= .sl y->LentT h l (.agg [.rv i]) (.agg [.e (.sl y)]):=fun {h i X y l} a b e=> .agg rfl fun j d c h1 h2=>by
  match j with
  | 0=>cases h1;cases h2;rw [<-e];exact .rv a b
  | j+1=>simp at h1
 have bF: ∀ {h:Hp} {R:Int} {y:List (List E)} {l:List Nat},(E.sl y).un= .sl y->LentT h l (.agg [.e (.sl y),.int R]) (.agg [.e (.sl y),.int R]):=fun {h R y l} e=> .agg rfl fun j d c h1 h2=>by
  match j with
  | 0=>cases h1;cases h2;exact .e e
  | 1=>cases h1;cases h2;exact .e rfl
  | j+2=>simp at h1
 have bT: ∀ {h:Hp} {y:List (List E)} {l:List Nat},(E.sl y).un= .sl y->LentT h l (.agg [.e (.sl y)]) (.agg [.e (.sl y)]):=fun {h y l} e=> .agg rfl fun j d c h1 h2=>by
  match j with
  | 0=>cases h1;cases h2;exact .e e
  | j+1=>simp at h1
 have aG: ∀ {h:Hp} {i:Nat} {R:Int} {X:E} {l:List Nat},i∈l->h i= .res (Tree X)->LentT h l (.agg [.rv i,.int R]) (.agg [.e X.un,.int R]):=fun {h i R X l} a b=> .agg rfl fun j d c h1 h2=>by
  match j with
  | 0=>cases h1;cases h2;exact .rv a b
  | 1=>cases h1;cases h2;exact .e rfl
  | j+2=>simp at h1
 cbv
 repeat' first | exact W1 | (simp only [e1,e2,e3,e4,e5];cbv) | refine WA ?_ ?_ | with_reducible intro hcc | refine WS ?_ | ((with_reducible first | refine callK_f hA hP h1 ?_ ?_ ?_ | refine callK_f hA hP h2 ?_ ?_ ?_);exact rfl;exact rfl;cbv) | (clear once;(with_reducible refine callK_f hA hP h217 ?_ ?_ ?_);exact rfl;exact rfl;cbv) | (clear once2;(with_reducible refine callK_f hA hP h37 ?_ ?_ ?_);exact rfl;exact rfl;cbv) | ((with_reducible first | refine callK_f hA hP h222 ?_ ?_ ?_);exact rfl;exact rfl;cbv) | ((with_reducible show A.call _ _ _ _ _ 9 _ _ _);refine callK_tree hA hP [] (fun _ _=>t217) ⟨bT xu,trivial⟩ hXn hXd (Swap.agg Swap.e rfl) ?_;cbv) | ((with_reducible show A.call _ _ _ _ _ 10 _ _ _);refine callK_tree hA hP [] (fun _ _=>t37) ⟨bT xtu,trivial⟩ hTn hTd (Swap.agg Swap.e rfl) ?_;cbv) | ((with_reducible show A.call _ _ _ _ _ 11 _ _ _);refine callK_tree hA hP [3,5] (fun _ _=>h223) ⟨aT (by decide) rfl uX,aT (by decide) rfl uT,trivial⟩ hLn hLd (Swap.tup (Swap.agg Swap.e rfl) rfl) ?_;cbv) | ((with_reducible show A.call _ _ _ _ _ 11 _ _ _);refine callK_tree hA hP [11,12] (fun _ _=>h223) ⟨aT (by decide) rfl uX,aT (by decide) rfl uT,trivial⟩ hLn hLd (Swap.tup (Swap.agg Swap.e rfl) rfl) ?_;cbv) | ((with_reducible show A.call _ _ _ _ _ 12 _ _ _);refine callK_lookT hA hP [7] (fun _ _=>q1) ⟨aF (by decide) rfl uL,bF xou,trivial⟩ rfl ?_;cbv) | ((with_reducible show A.call _ _ _ _ _ 12 _ _ _);refine callK_lookT hA hP [13] (fun _ _=>q1) ⟨aF (by decide) rfl uL,bF xou,trivial⟩ rfl ?_;cbv) | ((with_reducible show A.call _ _ _ _ _ 13 _ _ _);refine callK_lookT hA hP [3,9] (fun _ _=>q2) ⟨aT (by decide) rfl uX,aT (by decide) rfl uX,trivial⟩ rfl ?_;cbv) | ((with_reducible show A.call _ _ _ _ _ 14 _ _ _);refine callK_lookT hA hP [5,10] (fun _ _=>q3) ⟨aT (by decide) rfl uT,aT (by decide) rfl uT,trivial⟩ rfl ?_;cbv) | ((with_reducible show A.call _ _ _ _ _ 15 _ _ _);refine callK_mark hA hP 3 rfl hd_agg1 ?_ m1;cbv) | ((with_reducible show A.call _ _ _ _ _ 16 _ _ _);refine callK_mark hA hP 5 rfl hd_agg1 ?_ m2;cbv) | ((with_reducible show A.call _ _ _ _ _ 17 _ _ _);refine callK_mark hA hP 7 rfl hd_agg2 ?_ m3;cbv) | ((with_reducible show A.call _ _ _ _ _ 18 _ _ _);refine callK_lookT hA hP [7] (fun _ _=>q4) ⟨aG (by decide) rfl,.e rfl,trivial⟩ rfl ?_;cbv) | refine W6 ?_ | ((with_reducible first | refine hA.gb _ _ fun vb hvb=>?_);cbv) | ((with_reducible first | refine hA.Sto ?_ fun ds hds=>?_);rotate_left;cbv) | refine WL ?_ | fail
 all_goals try simp only [hA.sm,n_cast] at *
 all_goals first
  | omega
  | rfl)
end Go.Proofs.YtfplalbognalkaaGreat.Ab
