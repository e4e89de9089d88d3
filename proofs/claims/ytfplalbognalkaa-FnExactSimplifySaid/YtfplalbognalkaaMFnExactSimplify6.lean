/- Flat plans: all widths by the program; valid or not. -/
import Derived.Test.YtfplalbognalkaaMFnExactSimplify5
set_option linter.unusedSimpArgs false
set_option linter.unusedVariables false
set_option linter.unnecessarySimpa false
set_option linter.constructorNameAsVariable false
namespace Go.Proofs.Ytfplalbognalkaa.Ab
open Go
theorem stS_rng {nt:Int} {cols:Int->Int} {ws:List Int} {d:Fd} {w:Int} (h:stS nt cols ws d=some w):0<=w/\w<=200:=by
  rw [stS] at h
  split at h
  · simp only at h
    split at h
    · cases h
    · cases h;omega
  · cases h
set_option maxRecDepth 100000 in
set_option maxHeartbeats 8000000 in
theorem ok77 (ns:List Fd) (rt:Int) (x:List (List E)) (hx:x=ns.map fdr) (ts:List Tb) (xt:List (List E)) (hxt:xt=ts.map tbr) (hxl:x.length<=1048576) (hlen: ∀d∈ns,d.Ex.length<=1048576/\d.Exs.length<=1048576/\ ∀e∈d.Exs,e.length<=1048576) (hsz:cTS ts<=1048576)
    (ws0:List Int) (b0:Bool) (hr0:runF ts.length (colsOf ts) ns []=(ws0,b0))
    (b:Bool) (hb:b=((!decide ((x.length:Int)<1)&&(!decide (8000<(x.length:Int))&&(!decide (rt<0)&&(!decide ((x.length:Int)<=rt)&&dbOk ts))))&&b0)) (xr:List (List E)) (hxr:xr=if b then ws0.map ir else []):
    Plain Try.prog 77 [.agg [.e (.sl x),.int rt],.agg [.e (.sl xt)]] (.tup [.e (.sl xr),.bool b]):=okOf mixed p77 fun A P hA hP=>(by
  have hel:x.length=ns.length:=by rw [hx];simp
  obtain ⟨ze,hze⟩: ∃z:Int,z=x.length:=⟨_,rfl⟩
  rw [<-hze] at hb
  obtain ⟨c1,hc1⟩: ∃b,b=decide (ze<1):=⟨_,rfl⟩
  have v1:A.lt ze 1=c1:=by rw [hA.lt,hc1]
  obtain ⟨c2,hc2⟩: ∃b,b=decide (8000<ze):=⟨_,rfl⟩
  have v2:A.lt 8000 ze=c2:=by rw [hA.lt,hc2]
  obtain ⟨c3,hc3⟩: ∃b,b=decide (rt<0):=⟨_,rfl⟩
  have v3:A.lt rt 0=c3:=by rw [hA.lt,hc3]
  obtain ⟨c4,hc4⟩: ∃b,b=decide (ze<=rt):=⟨_,rfl⟩
  have v4:A.le ze rt=c4:=by rw [hA.le,hc4]
  obtain ⟨db,hdb⟩: ∃b,b=dbOk ts:=⟨_,rfl⟩
  rw [<-hc1,<-hc2,<-hc3,<-hc4,<-hdb] at hb
  have h38:=ok135 ts xt hxt hsz
  rw [<-hdb] at h38
  have hx0:b=false->xr= []:=fun h=>by rw [hxr,h];rfl
  have hnil: ∀d,d= []->(.tup [.e (.sl d),.bool false]:D)= .tup [.e (.sl []),.bool false]:=fun d h=>by rw [h]
  cases c1
  case true=>
    have hbf:b=false:=by rw [hb];simp
    rw [hx0 hbf,hbf]
    cbv
    repeat' first | with_reducible rfl | (simp only [v1,v2,v3,v4];cbv) | with_reducible refine And.intro ?_ ?_ | ((with_reducible intro hcc);first | (cases hcc;done) | skip) | ((with_reducible first | show goC _ _ _ _ _ _ _ _ | show goOps _ _ _ _ _ | show goD _ _ _ _ _ _);cbv) | ((with_reducible show okWr _ _=_);rfl) | (with_reducible refine hA.fin_tup _ _ _ ?_) | ((with_reducible first | refine callK_f hA hP h38 ?_ ?_ ?_);exact rfl;exact rfl;cbv) | ((with_reducible refine hA.len x _ _ _ _ fun z hz hb=>?_);(have e6:=hze.trans hz.symm);subst e6;cbv) | ((with_reducible show A.call _ _ _ _ false _ _ _ _);refine callK_no hA (.bool false) ?_;cbv) | ((with_reducible first | refine hA.fin_pl _ _ _ ?_ | refine hA.len _ _ _ _ _ fun z hz hb=>?_ | refine hA.off _ _ _ _ fun b hb=>?_ | refine hA.plus _ _ _ fun b hb=>?_ | refine hA.alt _ _ (Or.inl ?_) | refine hA.gb0 true _ ?_ | refine hA.gb0 false _ ?_ | refine hA.gb _ _ fun vb hvb=>?_);cbv) | ((with_reducible first | refine hA.app _ _ _ _ _ ⟨?_,fun zs m hzs hm=>?_⟩ | refine hA.app0 _ _ _ ⟨?_,fun m hm=>?_⟩ | refine hA.st _ _ _ _ _ ⟨?_,fun ds hds=>?_⟩ | refine hA.appv _ _ _ _ _ _ ⟨?_,fun bb m ds hbb hm hds=>?_⟩ | refine hA.vcut _ _ _ _ ⟨?_,fun cs hcs=>?_⟩ | refine hA.appw _ _ _ _ _ _ _ ⟨?_,fun bb m ds hbb hm hds=>?_⟩ | refine hA.sapp _ _ _ ⟨?_,fun sl hsl=>?_⟩);rotate_left;cbv) | (simp only [hA.lits];cbv)
    all_goals try simp only [hA.ar,inR,n_cast,Int.ofNat_eq_natCast,Option.getD_some,Option.getD_none] at *
    all_goals first
      | omega
      | rfl
      | trivial
      | (simp;done)
      | (trace_state;fail)
  case false=>
    cases c2
    case true=>
      have hbf:b=false:=by rw [hb];simp
      rw [hx0 hbf,hbf]
      cbv
      repeat' first | with_reducible rfl | (simp only [v1,v2,v3,v4];cbv) | with_reducible refine And.intro ?_ ?_ | ((with_reducible intro hcc);first | (cases hcc;done) | skip) | ((with_reducible first | show goC _ _ _ _ _ _ _ _ | show goOps _ _ _ _ _ | show goD _ _ _ _ _ _);cbv) | ((with_reducible show okWr _ _=_);rfl) | (with_reducible refine hA.fin_tup _ _ _ ?_) | ((with_reducible first | refine callK_f hA hP h38 ?_ ?_ ?_);exact rfl;exact rfl;cbv) | ((with_reducible refine hA.len x _ _ _ _ fun z hz hb=>?_);(have e6:=hze.trans hz.symm);subst e6;cbv) | ((with_reducible show A.call _ _ _ _ false _ _ _ _);refine callK_no hA (.bool false) ?_;cbv) | ((with_reducible first | refine hA.fin_pl _ _ _ ?_ | refine hA.len _ _ _ _ _ fun z hz hb=>?_ | refine hA.off _ _ _ _ fun b hb=>?_ | refine hA.plus _ _ _ fun b hb=>?_ | refine hA.alt _ _ (Or.inl ?_) | refine hA.gb0 true _ ?_ | refine hA.gb0 false _ ?_ | refine hA.gb _ _ fun vb hvb=>?_);cbv) | ((with_reducible first | refine hA.app _ _ _ _ _ ⟨?_,fun zs m hzs hm=>?_⟩ | refine hA.app0 _ _ _ ⟨?_,fun m hm=>?_⟩ | refine hA.st _ _ _ _ _ ⟨?_,fun ds hds=>?_⟩ | refine hA.appv _ _ _ _ _ _ ⟨?_,fun bb m ds hbb hm hds=>?_⟩ | refine hA.vcut _ _ _ _ ⟨?_,fun cs hcs=>?_⟩ | refine hA.appw _ _ _ _ _ _ _ ⟨?_,fun bb m ds hbb hm hds=>?_⟩ | refine hA.sapp _ _ _ ⟨?_,fun sl hsl=>?_⟩);rotate_left;cbv) | (simp only [hA.lits];cbv)
      all_goals try simp only [hA.ar,inR,n_cast,Int.ofNat_eq_natCast,Option.getD_some,Option.getD_none] at *
      all_goals first
        | omega
        | rfl
        | trivial
        | (simp;done)
        | (trace_state;fail)
    case false=>
      cases c3
      case true=>
        have hbf:b=false:=by rw [hb];simp
        rw [hx0 hbf,hbf]
        cbv
        repeat' first | with_reducible rfl | (simp only [v1,v2,v3,v4];cbv) | with_reducible refine And.intro ?_ ?_ | ((with_reducible intro hcc);first | (cases hcc;done) | skip) | ((with_reducible first | show goC _ _ _ _ _ _ _ _ | show goOps _ _ _ _ _ | show goD _ _ _ _ _ _);cbv) | ((with_reducible show okWr _ _=_);rfl) | (with_reducible refine hA.fin_tup _ _ _ ?_) | ((with_reducible first | refine callK_f hA hP h38 ?_ ?_ ?_);exact rfl;exact rfl;cbv) | ((with_reducible refine hA.len x _ _ _ _ fun z hz hb=>?_);(have e6:=hze.trans hz.symm);subst e6;cbv) | ((with_reducible show A.call _ _ _ _ false _ _ _ _);refine callK_no hA (.bool false) ?_;cbv) | ((with_reducible first | refine hA.fin_pl _ _ _ ?_ | refine hA.len _ _ _ _ _ fun z hz hb=>?_ | refine hA.off _ _ _ _ fun b hb=>?_ | refine hA.plus _ _ _ fun b hb=>?_ | refine hA.alt _ _ (Or.inl ?_) | refine hA.gb0 true _ ?_ | refine hA.gb0 false _ ?_ | refine hA.gb _ _ fun vb hvb=>?_);cbv) | ((with_reducible first | refine hA.app _ _ _ _ _ ⟨?_,fun zs m hzs hm=>?_⟩ | refine hA.app0 _ _ _ ⟨?_,fun m hm=>?_⟩ | refine hA.st _ _ _ _ _ ⟨?_,fun ds hds=>?_⟩ | refine hA.appv _ _ _ _ _ _ ⟨?_,fun bb m ds hbb hm hds=>?_⟩ | refine hA.vcut _ _ _ _ ⟨?_,fun cs hcs=>?_⟩ | refine hA.appw _ _ _ _ _ _ _ ⟨?_,fun bb m ds hbb hm hds=>?_⟩ | refine hA.sapp _ _ _ ⟨?_,fun sl hsl=>?_⟩);rotate_left;cbv) | (simp only [hA.lits];cbv)
        all_goals try simp only [hA.ar,inR,n_cast,Int.ofNat_eq_natCast,Option.getD_some,Option.getD_none] at *
        all_goals first
          | omega
          | rfl
          | trivial
          | (simp;done)
          | (trace_state;fail)
      case false=>
        cases c4
        case true=>
          have hbf:b=false:=by rw [hb];simp
          rw [hx0 hbf,hbf]
          cbv
          repeat' first | with_reducible rfl | (simp only [v1,v2,v3,v4];cbv) | with_reducible refine And.intro ?_ ?_ | ((with_reducible intro hcc);first | (cases hcc;done) | skip) | ((with_reducible first | show goC _ _ _ _ _ _ _ _ | show goOps _ _ _ _ _ | show goD _ _ _ _ _ _);cbv) | ((with_reducible show okWr _ _=_);rfl) | (with_reducible refine hA.fin_tup _ _ _ ?_) | ((with_reducible first | refine callK_f hA hP h38 ?_ ?_ ?_);exact rfl;exact rfl;cbv) | ((with_reducible refine hA.len x _ _ _ _ fun z hz hb=>?_);(have e6:=hze.trans hz.symm);subst e6;cbv) | ((with_reducible show A.call _ _ _ _ false _ _ _ _);refine callK_no hA (.bool false) ?_;cbv) | ((with_reducible first | refine hA.fin_pl _ _ _ ?_ | refine hA.len _ _ _ _ _ fun z hz hb=>?_ | refine hA.off _ _ _ _ fun b hb=>?_ | refine hA.plus _ _ _ fun b hb=>?_ | refine hA.alt _ _ (Or.inl ?_) | refine hA.gb0 true _ ?_ | refine hA.gb0 false _ ?_ | refine hA.gb _ _ fun vb hvb=>?_);cbv) | ((with_reducible first | refine hA.app _ _ _ _ _ ⟨?_,fun zs m hzs hm=>?_⟩ | refine hA.app0 _ _ _ ⟨?_,fun m hm=>?_⟩ | refine hA.st _ _ _ _ _ ⟨?_,fun ds hds=>?_⟩ | refine hA.appv _ _ _ _ _ _ ⟨?_,fun bb m ds hbb hm hds=>?_⟩ | refine hA.vcut _ _ _ _ ⟨?_,fun cs hcs=>?_⟩ | refine hA.appw _ _ _ _ _ _ _ ⟨?_,fun bb m ds hbb hm hds=>?_⟩ | refine hA.sapp _ _ _ ⟨?_,fun sl hsl=>?_⟩);rotate_left;cbv) | (simp only [hA.lits];cbv)
          all_goals try simp only [hA.ar,inR,n_cast,Int.ofNat_eq_natCast,Option.getD_some,Option.getD_none] at *
          all_goals first
            | omega
            | rfl
            | trivial
            | (simp;done)
            | (trace_state;fail)
        case false=>
          cases db
          case false=>
            have hbf:b=false:=by rw [hb];simp
            rw [hx0 hbf,hbf]
            cbv
            repeat' first | with_reducible rfl | (simp only [v1,v2,v3,v4];cbv) | with_reducible refine And.intro ?_ ?_ | ((with_reducible intro hcc);first | (cases hcc;done) | skip) | ((with_reducible first | show goC _ _ _ _ _ _ _ _ | show goOps _ _ _ _ _ | show goD _ _ _ _ _ _);cbv) | ((with_reducible show okWr _ _=_);rfl) | (with_reducible refine hA.fin_tup _ _ _ ?_) | ((with_reducible first | refine callK_f hA hP h38 ?_ ?_ ?_);exact rfl;exact rfl;cbv) | ((with_reducible refine hA.len x _ _ _ _ fun z hz hb=>?_);(have e6:=hze.trans hz.symm);subst e6;cbv) | ((with_reducible show A.call _ _ _ _ false _ _ _ _);refine callK_no hA (.bool false) ?_;cbv) | ((with_reducible first | refine hA.fin_pl _ _ _ ?_ | refine hA.len _ _ _ _ _ fun z hz hb=>?_ | refine hA.off _ _ _ _ fun b hb=>?_ | refine hA.plus _ _ _ fun b hb=>?_ | refine hA.alt _ _ (Or.inl ?_) | refine hA.gb0 true _ ?_ | refine hA.gb0 false _ ?_ | refine hA.gb _ _ fun vb hvb=>?_);cbv) | ((with_reducible first | refine hA.app _ _ _ _ _ ⟨?_,fun zs m hzs hm=>?_⟩ | refine hA.app0 _ _ _ ⟨?_,fun m hm=>?_⟩ | refine hA.st _ _ _ _ _ ⟨?_,fun ds hds=>?_⟩ | refine hA.appv _ _ _ _ _ _ ⟨?_,fun bb m ds hbb hm hds=>?_⟩ | refine hA.vcut _ _ _ _ ⟨?_,fun cs hcs=>?_⟩ | refine hA.appw _ _ _ _ _ _ _ ⟨?_,fun bb m ds hbb hm hds=>?_⟩ | refine hA.sapp _ _ _ ⟨?_,fun sl hsl=>?_⟩);rotate_left;cbv) | (simp only [hA.lits];cbv)
            all_goals try simp only [hA.ar,inR,n_cast,Int.ofNat_eq_natCast,Option.getD_some,Option.getD_none] at *
            all_goals first
              | omega
              | rfl
              | trivial
              | (simp;done)
              | (trace_state;fail)
          case true=>
            have hbb:b=b0:=by rw [hb];simp
            cbv
            repeat' first | with_reducible rfl | (simp only [v1,v2,v3,v4];cbv) | with_reducible refine And.intro ?_ ?_ | ((with_reducible intro hcc);first | (cases hcc;done) | skip) | ((with_reducible first | show goC _ _ _ _ _ _ _ _ | show goOps _ _ _ _ _ | show goD _ _ _ _ _ _);cbv) | ((with_reducible show okWr _ _=_);rfl) | ((with_reducible first | refine callK_f hA hP h38 ?_ ?_ ?_);exact rfl;exact rfl;cbv) | ((with_reducible refine hA.len x _ _ _ _ fun z hz hb=>?_);(have e6:=hze.trans hz.symm);subst e6;cbv) | ((with_reducible first | refine hA.fin_pl _ _ _ ?_ | refine hA.len _ _ _ _ _ fun z hz hb=>?_ | refine hA.off _ _ _ _ fun b hb=>?_ | refine hA.plus _ _ _ fun b hb=>?_ | refine hA.alt _ _ (Or.inl ?_) | refine hA.gb0 true _ ?_ | refine hA.gb0 false _ ?_ | refine hA.gb _ _ fun vb hvb=>?_);cbv) | ((with_reducible first | refine hA.app _ _ _ _ _ ⟨?_,fun zs m hzs hm=>?_⟩ | refine hA.app0 _ _ _ ⟨?_,fun m hm=>?_⟩ | refine hA.st _ _ _ _ _ ⟨?_,fun ds hds=>?_⟩ | refine hA.appv _ _ _ _ _ _ ⟨?_,fun bb m ds hbb hm hds=>?_⟩ | refine hA.vcut _ _ _ _ ⟨?_,fun cs hcs=>?_⟩ | refine hA.appw _ _ _ _ _ _ _ ⟨?_,fun bb m ds hbb hm hds=>?_⟩ | refine hA.sapp _ _ _ ⟨?_,fun sl hsl=>?_⟩);rotate_left;cbv) | (simp only [hA.lits];cbv)
            all_goals try simp only [hA.ar,inR,n_cast,Int.ofNat_eq_natCast,Option.getD_some,Option.getD_none] at *
            all_goals try omega
            clear v1 v2 v3 v4 h38
            refine hA.loopI (fun m s=> ∃(i:Int) (ws:List Int) (xw:List (List E)),0<=i/\m+i=x.length/\ws.length=i.toNat/\(∀w∈ws,0<=w/\w<=200)/\runF ts.length (colsOf ts) (ns.drop i.toNat) ws=(ws0,b0)/\xw=ws.map ir/\s=⟨[(42,.int i),(41,.int ze),(40,.e (.sl x)),(6,.own 2 xw),(2,.ref 0 0),(3,.ref 1 0)],fhp x xt rt xw.length⟩) x.length _
              ((Weak.zown 6 1 rfl).trans (Weak.keep (env':= [(42,.int 0),(41,.int ze),(40,.e (.sl x)),(6,.own 2 []),(2,.ref 0 0),(3,.ref 1 0)]) ⟨rfl,rfl,rfl,rfl,rfl,rfl,trivial⟩)) ⟨0, [], [],by omega,by omega,rfl,(fun w h=>by cases h),hr0,rfl,rfl⟩ ?_
            rintro m s K1 ⟨i,ws,xw,i0,i1,i2,i3,hrun,hxw,rfl⟩ hK
            have hxwl:xw.length=i.toNat:=by rw [hxw,List.length_map,i2]
            obtain ⟨kx,hkx⟩: ∃k,k=xw.length:=⟨_,rfl⟩
            rw [<-hkx]
            by_cases hi:(0:Int)<=i/\i<x.length
            · obtain ⟨K,T,M,W,Ex,Exs,L,R,xe,ye,q0,hxe,hye,q1⟩:=fd_at hx hi
              have hmem:(⟨K,T,M,W,Ex,Exs,L,R⟩:Fd)∈ns:=List.mem_of_getElem? q0
              obtain ⟨z1,z2,z3⟩:=hlen _ hmem
              have hxel:xe.length<=1048576:=by rw [hxe,List.length_map];exact z1
              have hyel:ye.length<=1048576:=by rw [hye,List.length_map];exact z2
              have hdr:ns.drop i.toNat=⟨K,T,M,W,Ex,Exs,L,R⟩::ns.drop (i.toNat+1):=by
                obtain ⟨a,c⟩:=List.getElem?_eq_some_iff.1 q0
                rw [List.drop_eq_getElem_cons a,c]
              rw [hdr] at hrun
              have e8:A.lt i ze=true:=by rw [hA.lt];exact decide_eq_true (by omega)
              have hwi:(ws.length:Int)=i:=by omega
              have hSI:=st_eqF ts.length (colsOf ts) ws ⟨K,T,M,W,Ex,Exs,L,R⟩
              have h284:=ok136 K T M W Ex Exs L R xe ye hxe hye i
              obtain ⟨fo,hfo⟩: ∃b,b=fldI ⟨K,T,M,W,Ex,Exs,L,R⟩ i:=⟨_,rfl⟩
              rw [<-hfo] at h284
              rw [<-hwi] at hfo
              cases fo
              case false=>
                rw [runF_none (by rw [<-hSI,stI,if_neg];rw [<-hfo];simp)] at hrun
                have y2:b0=false:=(congrArg Prod.snd hrun).symm
                have hbf:=hbb.trans y2
                rw [hx0 hbf,hbf]
                clear hK hrun hlen i3 hxr
                cbv
                repeat' first | with_reducible rfl | (simp only [e8];cbv) | with_reducible refine And.intro ?_ ?_ | ((with_reducible intro hcc);first | (cases hcc;done) | skip) | ((with_reducible first | show goC _ _ _ _ _ _ _ _ | show goOps _ _ _ _ _ | show goD _ _ _ _ _ _);cbv) | ((with_reducible show okWr _ _=_);rfl) | (with_reducible refine hA.fin_tup _ _ _ ?_) | ((with_reducible first | refine callK_f hA hP h284 ?_ ?_ ?_);exact rfl;exact rfl;cbv) | ((with_reducible refine hA.row x i _ ⟨hi,fun row hrow=>?_⟩);rw [q1] at hrow;subst hrow;cbv) | ((with_reducible refine hA.st [_,_,_,_,_,_,_,_] _ _ _ _ ⟨?_,fun ds hds=>?_⟩);rotate_left;(have hds:ds= [.int K,.int T,.int M,.int W,.e (.sl xe),.e (.sl ye),.int L,.int R]:=hds);subst hds;cbv) | ((with_reducible first | refine hA.fin_pl _ _ _ ?_ | refine hA.len _ _ _ _ _ fun z hz hb=>?_ | refine hA.off _ _ _ _ fun b hb=>?_ | refine hA.plus _ _ _ fun b hb=>?_ | refine hA.alt _ _ (Or.inl ?_) | refine hA.gb0 true _ ?_ | refine hA.gb0 false _ ?_ | refine hA.gb _ _ fun vb hvb=>?_);cbv) | ((with_reducible first | refine hA.app _ _ _ _ _ ⟨?_,fun zs m hzs hm=>?_⟩ | refine hA.app0 _ _ _ ⟨?_,fun m hm=>?_⟩ | refine hA.st _ _ _ _ _ ⟨?_,fun ds hds=>?_⟩ | refine hA.appv _ _ _ _ _ _ ⟨?_,fun bb m ds hbb hm hds=>?_⟩ | refine hA.vcut _ _ _ _ ⟨?_,fun cs hcs=>?_⟩ | refine hA.appw _ _ _ _ _ _ _ ⟨?_,fun bb m ds hbb hm hds=>?_⟩ | refine hA.sapp _ _ _ ⟨?_,fun sl hsl=>?_⟩);rotate_left;cbv) | (simp only [hA.lits];cbv)
                all_goals try simp only [hA.ar,inR,n_cast,Int.ofNat_eq_natCast,Option.getD_some,Option.getD_none] at *
                all_goals first
                  | omega
                  | rfl
                  | (simp;done)
                  | (trace_state;fail)
              case true=>
                have h285:=ok137 K T M W Ex Exs L R xe ye hxe hye ts xt hxt ws xw hxw i3 hxel hyel z3 hfo.symm
                obtain ⟨w,hw⟩: ∃w,w=widI ⟨K,T,M,W,Ex,Exs,L,R⟩ ts.length (colsOf ts) (at0 (lef K) ws L) (at0 (rig K) ws R):=⟨_,rfl⟩
                rw [<-hw] at h285
                have hst:stS ts.length (colsOf ts) ws ⟨K,T,M,W,Ex,Exs,L,R⟩=if w<0 then none else some w:=by rw [<-hSI,stI,if_pos hfo.symm,hw]
                by_cases hw0:w<0
                · have e9:A.lt w 0=true:=by rw [hA.lt];exact decide_eq_true hw0
                  rw [if_pos hw0] at hst
                  rw [runF_none hst] at hrun
                  have y2:b0=false:=(congrArg Prod.snd hrun).symm
                  have hbf:=hbb.trans y2
                  rw [hx0 hbf,hbf]
                  clear hK hrun hlen i3 hxr hst hSI
                  cbv
                  repeat' first | with_reducible rfl | (simp only [e8,e9];cbv) | with_reducible refine And.intro ?_ ?_ | ((with_reducible intro hcc);first | (cases hcc;done) | skip) | ((with_reducible first | show goC _ _ _ _ _ _ _ _ | show goOps _ _ _ _ _ | show goD _ _ _ _ _ _);cbv) | ((with_reducible show okWr _ _=_);rfl) | (with_reducible refine hA.fin_tup _ _ _ ?_) | ((with_reducible first | refine callK_f hA hP h284 ?_ ?_ ?_);exact rfl;exact rfl;cbv) | ((with_reducible show A.call _ _ _ _ _ 137 _ _ _);refine callK_eq (args:= [.agg [.int K,.int T,.int M,.int W,.e (.sl xe),.e (.sl ye),.int L,.int R],.agg [.e (.sl xt)],.e (.sl xw)]) hA hP ?_ ?_ ?_ ⟨.inl rfl,.inl rfl,.inr (.inl rfl),trivial⟩ (fun _ _=>h285);exact rfl;exact rfl;cbv) | ((with_reducible refine hA.row x i _ ⟨hi,fun row hrow=>?_⟩);rw [q1] at hrow;subst hrow;cbv) | ((with_reducible refine hA.st [_,_,_,_,_,_,_,_] _ _ _ _ ⟨?_,fun ds hds=>?_⟩);rotate_left;(have hds:ds= [.int K,.int T,.int M,.int W,.e (.sl xe),.e (.sl ye),.int L,.int R]:=hds);subst hds;cbv) | ((with_reducible first | refine hA.fin_pl _ _ _ ?_ | refine hA.len _ _ _ _ _ fun z hz hb=>?_ | refine hA.off _ _ _ _ fun b hb=>?_ | refine hA.plus _ _ _ fun b hb=>?_ | refine hA.alt _ _ (Or.inl ?_) | refine hA.gb0 true _ ?_ | refine hA.gb0 false _ ?_ | refine hA.gb _ _ fun vb hvb=>?_);cbv) | ((with_reducible first | refine hA.app _ _ _ _ _ ⟨?_,fun zs m hzs hm=>?_⟩ | refine hA.app0 _ _ _ ⟨?_,fun m hm=>?_⟩ | refine hA.st _ _ _ _ _ ⟨?_,fun ds hds=>?_⟩ | refine hA.appv _ _ _ _ _ _ ⟨?_,fun bb m ds hbb hm hds=>?_⟩ | refine hA.vcut _ _ _ _ ⟨?_,fun cs hcs=>?_⟩ | refine hA.appw _ _ _ _ _ _ _ ⟨?_,fun bb m ds hbb hm hds=>?_⟩ | refine hA.sapp _ _ _ ⟨?_,fun sl hsl=>?_⟩);rotate_left;cbv) | (simp only [hA.lits];cbv)
                  all_goals try simp only [hA.ar,inR,n_cast,Int.ofNat_eq_natCast,Option.getD_some,Option.getD_none] at *
                  all_goals first
                    | omega
                    | rfl
                    | (simp;done)
                    | (trace_state;fail)
                · have e9:A.lt w 0=false:=by rw [hA.lt];exact decide_eq_false hw0
                  rw [if_neg hw0] at hst
                  have hwr:=stS_rng hst
                  rw [runF_some hst] at hrun
                  have hK2: ∀(zs:List (List E)) (mm:Nat) (env:List (Nat×D)) (hp:List O),zs=xw++ [[E.int w]]->mm=zs.length->hpF hp 0= .box [.e (.sl x),.int rt]->hpF hp 1= .box [.e (.sl xt)]->hpF hp 2= .front mm 1->subW [(42,.int (i+1)),(41,.int ze),(40,.e (.sl x)),(6,.own 2 zs),(2,.ref 0 0),(3,.ref 1 0)] env->K1 ⟨env,hp⟩:=fun zs mm env hp t1 t2 t3 t4 t5 t6=>
                    hK _ (m-1) _ (by omega) (Weak.ren (l0:= []) [0,1,2] (fun t=> [(42,.int (i+1)),(41,.int ze),(40,.e (.sl x)),(6,.own (t 2) zs),(2,.ref (t 0) 0),(3,.ref (t 1) 0)]) (fun _=>fhp x xt rt zs.length) rfl t6 ⟨t3,t4,by rw [t5,t2],trivial⟩ (fhp_side (fun t=>rfl) rfl))
                      ⟨i+1,ws++ [w],zs,by omega,by omega,by simp;omega,fun v hv=>by
                        rcases List.mem_append.1 hv with hv | hv
                        · exact i3 v hv
                        · rw [List.mem_singleton.1 hv];exact hwr,by
                        rw [show (i+1).toNat=i.toNat+1 by omega];exact hrun,by rw [t1,hxw,List.map_append];rfl,rfl⟩
                  clear hK hrun hlen i3 hxr hst hSI hw
                  cbv
                  repeat' first | with_reducible rfl | (simp only [e8,e9];cbv) | with_reducible refine And.intro ?_ ?_ | ((with_reducible intro hcc);first | (cases hcc;done) | skip) | ((with_reducible first | show goC _ _ _ _ _ _ _ _ | show goOps _ _ _ _ _ | show goD _ _ _ _ _ _);cbv) | ((with_reducible show okWr _ _=_);rfl) | (with_reducible refine hA.fin_tup _ _ _ ?_) | ((with_reducible first | refine callK_f hA hP h284 ?_ ?_ ?_);exact rfl;exact rfl;cbv) | ((with_reducible show A.call _ _ _ _ _ 137 _ _ _);refine callK_eq (args:= [.agg [.int K,.int T,.int M,.int W,.e (.sl xe),.e (.sl ye),.int L,.int R],.agg [.e (.sl xt)],.e (.sl xw)]) hA hP ?_ ?_ ?_ ⟨.inl rfl,.inl rfl,.inr (.inl rfl),trivial⟩ (fun _ _=>h285);exact rfl;exact rfl;cbv) | ((with_reducible refine hA.row x i _ ⟨hi,fun row hrow=>?_⟩);rw [q1] at hrow;subst hrow;cbv) | ((with_reducible refine hA.st [_,_,_,_,_,_,_,_] _ _ _ _ ⟨?_,fun ds hds=>?_⟩);rotate_left;(have hds:ds= [.int K,.int T,.int M,.int W,.e (.sl xe),.e (.sl ye),.int L,.int R]:=hds);subst hds;cbv) | ((with_reducible first | refine hA.fin_pl _ _ _ ?_ | refine hA.len _ _ _ _ _ fun z hz hb=>?_ | refine hA.off _ _ _ _ fun b hb=>?_ | refine hA.plus _ _ _ fun b hb=>?_ | refine hA.alt _ _ (Or.inl ?_) | refine hA.gb0 true _ ?_ | refine hA.gb0 false _ ?_ | refine hA.gb _ _ fun vb hvb=>?_);cbv) | ((with_reducible first | refine hA.app _ _ _ _ _ ⟨?_,fun zs m hzs hm=>?_⟩ | refine hA.app0 _ _ _ ⟨?_,fun m hm=>?_⟩ | refine hA.st _ _ _ _ _ ⟨?_,fun ds hds=>?_⟩ | refine hA.appv _ _ _ _ _ _ ⟨?_,fun bb m ds hbb hm hds=>?_⟩ | refine hA.vcut _ _ _ _ ⟨?_,fun cs hcs=>?_⟩ | refine hA.appw _ _ _ _ _ _ _ ⟨?_,fun bb m ds hbb hm hds=>?_⟩ | refine hA.sapp _ _ _ ⟨?_,fun sl hsl=>?_⟩);rotate_left;cbv) | (simp only [hA.lits];cbv)
                  all_goals try simp only [hA.ar,inR,n_cast,Int.ofNat_eq_natCast,Option.getD_some,Option.getD_none] at *
                  all_goals first
                    | omega
                    | exact hK2 _ _ _ _ hzs hm rfl rfl rfl ⟨.inl rfl,.inl rfl,.inl rfl,.inl rfl,.inl rfl,.inl rfl,trivial⟩
                    | (rw [hkx];done)
                    | exact ⟨rfl,trivial⟩
                    | (simp;done)
                    | (simp only [List.length_cons,List.length_nil];omega)
                    | (trace_state;fail)
            · have e8:A.lt i ze=false:=by rw [hA.lt];exact decide_eq_false (by omega)
              rw [List.drop_eq_nil_of_le (by omega),runF] at hrun
              have y1:ws0=ws:=(congrArg Prod.fst hrun).symm
              have y2:b0=true:=(congrArg Prod.snd hrun).symm
              have hbt:=hbb.trans y2
              have hxx:xr=xw:=by rw [hxr,hbt,y1,hxw];rfl
              rw [hxx,hbt]
              clear hK hrun hlen i3 hxr
              cbv
              repeat' first | with_reducible rfl | (simp only [e8];cbv) | with_reducible refine And.intro ?_ ?_ | ((with_reducible intro hcc);first | (cases hcc;done) | skip) | ((with_reducible first | show goC _ _ _ _ _ _ _ _ | show goOps _ _ _ _ _ | show goD _ _ _ _ _ _);cbv) | ((with_reducible show okWr _ _=_);rfl) | (with_reducible refine hA.fin_tup _ _ _ ?_) | ((with_reducible first | refine hA.fin_pl _ _ _ ?_ | refine hA.len _ _ _ _ _ fun z hz hb=>?_ | refine hA.off _ _ _ _ fun b hb=>?_ | refine hA.plus _ _ _ fun b hb=>?_ | refine hA.alt _ _ (Or.inl ?_) | refine hA.gb0 true _ ?_ | refine hA.gb0 false _ ?_ | refine hA.gb _ _ fun vb hvb=>?_);cbv) | ((with_reducible first | refine hA.app _ _ _ _ _ ⟨?_,fun zs m hzs hm=>?_⟩ | refine hA.app0 _ _ _ ⟨?_,fun m hm=>?_⟩ | refine hA.st _ _ _ _ _ ⟨?_,fun ds hds=>?_⟩ | refine hA.appv _ _ _ _ _ _ ⟨?_,fun bb m ds hbb hm hds=>?_⟩ | refine hA.vcut _ _ _ _ ⟨?_,fun cs hcs=>?_⟩ | refine hA.appw _ _ _ _ _ _ _ ⟨?_,fun bb m ds hbb hm hds=>?_⟩ | refine hA.sapp _ _ _ ⟨?_,fun sl hsl=>?_⟩);rotate_left;cbv) | (simp only [hA.lits];cbv)
              all_goals try simp only [hA.ar,inR,n_cast,Int.ofNat_eq_natCast,Option.getD_some,Option.getD_none] at *
              all_goals first
                | omega
                | rfl
                | (trace_state;fail))
set_option maxRecDepth 100000 in
set_option maxHeartbeats 4000000 in
theorem ok29 (ns:List Fd) (rt:Int) (x:List (List E)) (hx:x=ns.map fdr) (ts:List Tb) (xt:List (List E)) (hxt:xt=ts.map tbr) (hxl:x.length<=1048576) (hlen: ∀d∈ns,d.Ex.length<=1048576/\d.Exs.length<=1048576/\ ∀e∈d.Exs,e.length<=1048576) (hsz:cTS ts<=1048576)
    (ws0:List Int) (b0:Bool) (hr0:runF ts.length (colsOf ts) ns []=(ws0,b0))
    (b:Bool) (hb:b=((!decide ((x.length:Int)<1)&&(!decide (8000<(x.length:Int))&&(!decide (rt<0)&&(!decide ((x.length:Int)<=rt)&&dbOk ts))))&&b0)) (v:Int) (hv:v=if b then ws0.getD rt.toNat 0 else 0) (hwl:b0=true->ws0.length=ns.length):
    Plain Try.prog 29 [.agg [.e (.sl x),.int rt],.agg [.e (.sl xt)]] (.tup [.int v,.bool b]):=okOf mixed p29 fun A P hA hP=>(by
  have hel:x.length=ns.length:=by rw [hx];simp
  have hv0:b=false->v=0:=fun h=>by rw [hv,h];rfl
  obtain ⟨xr,hxr⟩: ∃x,x=ws0.map ir:=⟨_,rfl⟩
  have h237:=ok74 ns rt x hx ts xt hxt hxl hlen ws0 b0 hr0 xr hxr
  have h36:=ok73 ts xt hxt hsz
  obtain ⟨ze,hze⟩: ∃z:Int,z=x.length:=⟨_,rfl⟩
  rw [<-hze] at hb
  obtain ⟨c1,hc1⟩: ∃b,b=decide (ze<1):=⟨_,rfl⟩
  have v1:A.lt ze 1=c1:=by rw [hA.lt,hc1]
  obtain ⟨c2,hc2⟩: ∃b,b=decide (8000<ze):=⟨_,rfl⟩
  have v2:A.lt 8000 ze=c2:=by rw [hA.lt,hc2]
  obtain ⟨c3,hc3⟩: ∃b,b=decide (rt<0):=⟨_,rfl⟩
  have v3:A.lt rt 0=c3:=by rw [hA.lt,hc3]
  obtain ⟨c4,hc4⟩: ∃b,b=decide (ze<=rt):=⟨_,rfl⟩
  have v4:A.le ze rt=c4:=by rw [hA.le,hc4]
  obtain ⟨db,hdb⟩: ∃b,b=dbOk ts:=⟨_,rfl⟩
  rw [<-hc1,<-hc2,<-hc3,<-hc4,<-hdb] at hb
  rw [<-hdb] at h36
  cases db
  case false=>
    have hbf:b=false:=by rw [hb];simp
    rw [hv0 hbf,hbf]
    cbv
    repeat' first | with_reducible rfl | (simp only [v1,v2,v3,v4];cbv) | with_reducible refine And.intro ?_ ?_ | ((with_reducible intro hcc);first | (cases hcc;done) | skip) | ((with_reducible first | show goC _ _ _ _ _ _ _ _ | show goOps _ _ _ _ _ | show goD _ _ _ _ _ _);cbv) | ((with_reducible show okWr _ _=_);rfl) | ((with_reducible first | refine callK_f hA hP h36 ?_ ?_ ?_);exact rfl;exact rfl;cbv) | ((with_reducible refine hA.len x _ _ _ _ fun z hz hb=>?_);(have e6:=hze.trans hz.symm);subst e6;cbv) | ((with_reducible show A.call _ _ _ _ false _ _ _ _);refine callK_no hA (.bool false) ?_;cbv) | ((with_reducible first | refine hA.fin_pl _ _ _ ?_ | refine hA.len _ _ _ _ _ fun z hz hb=>?_ | refine hA.off _ _ _ _ fun b hb=>?_ | refine hA.plus _ _ _ fun b hb=>?_ | refine hA.alt _ _ (Or.inl ?_) | refine hA.gb0 true _ ?_ | refine hA.gb0 false _ ?_ | refine hA.gb _ _ fun vb hvb=>?_);cbv) | (simp only [hA.lits];cbv)
    all_goals try simp only [hA.ar,inR,n_cast,Int.ofNat_eq_natCast,Option.getD_some,Option.getD_none] at *
    all_goals first
      | omega
      | rfl
      | trivial
      | (simp;done)
      | (trace_state;fail)
  case true=>
    cases c1
    case true=>
      have hbf:b=false:=by rw [hb];simp
      rw [hv0 hbf,hbf]
      cbv
      repeat' first | with_reducible rfl | (simp only [v1,v2,v3,v4];cbv) | with_reducible refine And.intro ?_ ?_ | ((with_reducible intro hcc);first | (cases hcc;done) | skip) | ((with_reducible first | show goC _ _ _ _ _ _ _ _ | show goOps _ _ _ _ _ | show goD _ _ _ _ _ _);cbv) | ((with_reducible show okWr _ _=_);rfl) | ((with_reducible first | refine callK_f hA hP h36 ?_ ?_ ?_);exact rfl;exact rfl;cbv) | ((with_reducible refine hA.len x _ _ _ _ fun z hz hb=>?_);(have e6:=hze.trans hz.symm);subst e6;cbv) | ((with_reducible show A.call _ _ _ _ false _ _ _ _);refine callK_no hA (.bool false) ?_;cbv) | ((with_reducible first | refine hA.fin_pl _ _ _ ?_ | refine hA.len _ _ _ _ _ fun z hz hb=>?_ | refine hA.off _ _ _ _ fun b hb=>?_ | refine hA.plus _ _ _ fun b hb=>?_ | refine hA.alt _ _ (Or.inl ?_) | refine hA.gb0 true _ ?_ | refine hA.gb0 false _ ?_ | refine hA.gb _ _ fun vb hvb=>?_);cbv) | (simp only [hA.lits];cbv)
      all_goals try simp only [hA.ar,inR,n_cast,Int.ofNat_eq_natCast,Option.getD_some,Option.getD_none] at *
      all_goals first
        | omega
        | rfl
        | trivial
        | (simp;done)
        | (trace_state;fail)
    case false=>
      cases c2
      case true=>
        have hbf:b=false:=by rw [hb];simp
        rw [hv0 hbf,hbf]
        cbv
        repeat' first | with_reducible rfl | (simp only [v1,v2,v3,v4];cbv) | with_reducible refine And.intro ?_ ?_ | ((with_reducible intro hcc);first | (cases hcc;done) | skip) | ((with_reducible first | show goC _ _ _ _ _ _ _ _ | show goOps _ _ _ _ _ | show goD _ _ _ _ _ _);cbv) | ((with_reducible show okWr _ _=_);rfl) | ((with_reducible first | refine callK_f hA hP h36 ?_ ?_ ?_);exact rfl;exact rfl;cbv) | ((with_reducible refine hA.len x _ _ _ _ fun z hz hb=>?_);(have e6:=hze.trans hz.symm);subst e6;cbv) | ((with_reducible show A.call _ _ _ _ false _ _ _ _);refine callK_no hA (.bool false) ?_;cbv) | ((with_reducible first | refine hA.fin_pl _ _ _ ?_ | refine hA.len _ _ _ _ _ fun z hz hb=>?_ | refine hA.off _ _ _ _ fun b hb=>?_ | refine hA.plus _ _ _ fun b hb=>?_ | refine hA.alt _ _ (Or.inl ?_) | refine hA.gb0 true _ ?_ | refine hA.gb0 false _ ?_ | refine hA.gb _ _ fun vb hvb=>?_);cbv) | (simp only [hA.lits];cbv)
        all_goals try simp only [hA.ar,inR,n_cast,Int.ofNat_eq_natCast,Option.getD_some,Option.getD_none] at *
        all_goals first
          | omega
          | rfl
          | trivial
          | (simp;done)
          | (trace_state;fail)
      case false=>
        cases c3
        case true=>
          have hbf:b=false:=by rw [hb];simp
          rw [hv0 hbf,hbf]
          cbv
          repeat' first | with_reducible rfl | (simp only [v1,v2,v3,v4];cbv) | with_reducible refine And.intro ?_ ?_ | ((with_reducible intro hcc);first | (cases hcc;done) | skip) | ((with_reducible first | show goC _ _ _ _ _ _ _ _ | show goOps _ _ _ _ _ | show goD _ _ _ _ _ _);cbv) | ((with_reducible show okWr _ _=_);rfl) | ((with_reducible first | refine callK_f hA hP h36 ?_ ?_ ?_);exact rfl;exact rfl;cbv) | ((with_reducible refine hA.len x _ _ _ _ fun z hz hb=>?_);(have e6:=hze.trans hz.symm);subst e6;cbv) | ((with_reducible show A.call _ _ _ _ false _ _ _ _);refine callK_no hA (.bool false) ?_;cbv) | ((with_reducible first | refine hA.fin_pl _ _ _ ?_ | refine hA.len _ _ _ _ _ fun z hz hb=>?_ | refine hA.off _ _ _ _ fun b hb=>?_ | refine hA.plus _ _ _ fun b hb=>?_ | refine hA.alt _ _ (Or.inl ?_) | refine hA.gb0 true _ ?_ | refine hA.gb0 false _ ?_ | refine hA.gb _ _ fun vb hvb=>?_);cbv) | (simp only [hA.lits];cbv)
          all_goals try simp only [hA.ar,inR,n_cast,Int.ofNat_eq_natCast,Option.getD_some,Option.getD_none] at *
          all_goals first
            | omega
            | rfl
            | trivial
            | (simp;done)
            | (trace_state;fail)
        case false=>
          cases c4
          case true=>
            have hbf:b=false:=by rw [hb];simp
            rw [hv0 hbf,hbf]
            cbv
            repeat' first | with_reducible rfl | (simp only [v1,v2,v3,v4];cbv) | with_reducible refine And.intro ?_ ?_ | ((with_reducible intro hcc);first | (cases hcc;done) | skip) | ((with_reducible first | show goC _ _ _ _ _ _ _ _ | show goOps _ _ _ _ _ | show goD _ _ _ _ _ _);cbv) | ((with_reducible show okWr _ _=_);rfl) | ((with_reducible first | refine callK_f hA hP h36 ?_ ?_ ?_);exact rfl;exact rfl;cbv) | ((with_reducible refine hA.len x _ _ _ _ fun z hz hb=>?_);(have e6:=hze.trans hz.symm);subst e6;cbv) | ((with_reducible show A.call _ _ _ _ false _ _ _ _);refine callK_no hA (.bool false) ?_;cbv) | ((with_reducible first | refine hA.fin_pl _ _ _ ?_ | refine hA.len _ _ _ _ _ fun z hz hb=>?_ | refine hA.off _ _ _ _ fun b hb=>?_ | refine hA.plus _ _ _ fun b hb=>?_ | refine hA.alt _ _ (Or.inl ?_) | refine hA.gb0 true _ ?_ | refine hA.gb0 false _ ?_ | refine hA.gb _ _ fun vb hvb=>?_);cbv) | (simp only [hA.lits];cbv)
            all_goals try simp only [hA.ar,inR,n_cast,Int.ofNat_eq_natCast,Option.getD_some,Option.getD_none] at *
            all_goals first
              | omega
              | rfl
              | trivial
              | (simp;done)
              | (trace_state;fail)
          case false=>
            have hbb:b=b0:=by rw [hb];simp
            cases b0
            case false=>
              rw [hv0 hbb,hbb]
              clear hr0 hlen
              cbv
              repeat' first | with_reducible rfl | (simp only [v1,v2,v3,v4];cbv) | with_reducible refine And.intro ?_ ?_ | ((with_reducible intro hcc);first | (cases hcc;done) | skip) | ((with_reducible first | show goC _ _ _ _ _ _ _ _ | show goOps _ _ _ _ _ | show goD _ _ _ _ _ _);cbv) | ((with_reducible show okWr _ _=_);rfl) | ((with_reducible first | refine callK_f hA hP h36 ?_ ?_ ?_ | refine callK_f hA hP h237 ?_ ?_ ?_);exact rfl;exact rfl;cbv) | ((with_reducible refine hA.len x _ _ _ _ fun z hz hb=>?_);(have e6:=hze.trans hz.symm);subst e6;cbv) | ((with_reducible first | refine hA.fin_pl _ _ _ ?_ | refine hA.len _ _ _ _ _ fun z hz hb=>?_ | refine hA.off _ _ _ _ fun b hb=>?_ | refine hA.plus _ _ _ fun b hb=>?_ | refine hA.alt _ _ (Or.inl ?_) | refine hA.gb0 true _ ?_ | refine hA.gb0 false _ ?_ | refine hA.gb _ _ fun vb hvb=>?_);cbv) | (simp only [hA.lits];cbv)
              all_goals try simp only [hA.ar,inR,n_cast,Int.ofNat_eq_natCast,Option.getD_some,Option.getD_none] at *
              all_goals first
                | omega
                | rfl
                | (simp;done)
                | (trace_state;fail)
            case true=>
              have hrr:(0:Int)<=rt/\rt<xr.length:=by
                have h1:=of_decide_eq_false hc3.symm
                have h2:=of_decide_eq_false hc4.symm
                have h3:=hwl rfl
                have h4:xr.length=ws0.length:=by rw [hxr];simp
                omega
              obtain ⟨p,qp,qq⟩:=int_at hxr hrr
              have hvp:v=p:=by rw [hv,hbb];simp [List.getD,qq]
              rw [hvp,hbb]
              clear hr0 hlen
              cbv
              repeat' first | with_reducible rfl | (simp only [v1,v2,v3,v4];cbv) | with_reducible refine And.intro ?_ ?_ | ((with_reducible intro hcc);first | (cases hcc;done) | skip) | ((with_reducible first | show goC _ _ _ _ _ _ _ _ | show goOps _ _ _ _ _ | show goD _ _ _ _ _ _);cbv) | ((with_reducible show okWr _ _=_);rfl) | ((with_reducible first | refine callK_f hA hP h36 ?_ ?_ ?_ | refine callK_f hA hP h237 ?_ ?_ ?_);exact rfl;exact rfl;cbv) | ((with_reducible refine hA.len x _ _ _ _ fun z hz hb=>?_);(have e6:=hze.trans hz.symm);subst e6;cbv) | ((with_reducible refine hA.row xr rt _ ⟨hrr,fun row hrow=>?_⟩);rw [qp] at hrow;subst hrow;cbv) | ((with_reducible first | refine hA.fin_pl _ _ _ ?_ | refine hA.len _ _ _ _ _ fun z hz hb=>?_ | refine hA.off _ _ _ _ fun b hb=>?_ | refine hA.plus _ _ _ fun b hb=>?_ | refine hA.alt _ _ (Or.inl ?_) | refine hA.gb0 true _ ?_ | refine hA.gb0 false _ ?_ | refine hA.gb _ _ fun vb hvb=>?_);cbv) | (simp only [hA.lits];cbv)
              all_goals try simp only [hA.ar,inR,n_cast,Int.ofNat_eq_natCast,Option.getD_some,Option.getD_none] at *
              all_goals first
                | omega
                | rfl
                | (simp;done)
                | (trace_state;fail))
end Go.Proofs.Ytfplalbognalkaa.Ab
/- The specification's simplified plans, whole. -/
namespace Go.Proofs.Ytfplalbognalkaa.Ab
open Go
def c42:F:=⟨110, [(.cell 4 true 2),(.tmp 5)],(.seq (.reg [ZA 2 (.box 0),ZA 3 (.box 1),ZA 4 (.alloc [(.e (.sl [])),(.int 0)]),ZA 5 (.mov (.c (.bool false)))]) (.seq (.reg [ZA 17 (.load true 2 2),ZA 18 (.load true 1 3),ZA 19 (.call 29 [17,18]),ZA 16 (.mov 19),ZA 20 (.ext 0 16),ZA 21 (.ext 1 16),ZA 6 (.mov 20),ZA 7 (.mov 21)]) (.seq (.seq (.reg [ZA 22 (.mov 7),ZA 23 (.un .not 22)]) (.cond 23 (.seq (.reg [ZA 24 (.build [.zs,(.int 0)] []),ZN (.store true 2 4 24),ZA 5 (.mov (.c (.bool false)))]) .ret) .skip)) (.seq (.reg [ZA 26 (.load true 2 2),ZA 27 (.load true 1 3),ZA 28 (.call 74 [26,27]),ZA 25 (.mov 28),ZA 29 (.ext 0 25),ZA 30 (.ext 1 25),ZA 8 (.mov 29),ZA 9 (.mov 30)]) (.seq (.reg [ZA 31 (.lit 8 [(.v (.int .i64 0)),(.v (.int .i64 0)),(.v (.int .i64 0)),(.v (.int .i64 0)),(.sl []),(.sl []),(.v (.int .i64 0)),(.v (.int .i64 0))] 0 []),ZA 32 (.fadr 1 2),ZA 33 (.load false 1 32),ZA 34 (.build [.zs,(.int 0)] [(0,(1,31)),(1,(1,33))]),ZA 10 (.alloc [(.e (.sl [])),(.int 0)]),ZN (.store true 2 10 34)]) (.seq (.seq (.reg [ZA 11 (.mov (.c (.int 0)))]) (.block 0 (.loop (.seq (.seq (.reg [ZA 35 (.mov 11),ZA 36 (.fadr 0 2),ZA 37 (.load false 1 36),ZA 38 (.lenl 37),ZA 39 (.bin .lss 35 38)]) (.cond 39 .skip (.exit 0))) (.seq (.block 1 (.seq (.reg [ZA 42 (.fadr 0 2),ZA 43 (.load false 1 42),ZA 44 (.mov 11),ZA 45 (.iadr none 8 43 44),ZA 46 (.load true 8 45),ZA 47 (.call 93 [46]),ZA 12 (.alloc [(.int 0),(.int 0),(.int 0),(.int 0),(.e (.sl [])),(.e (.sl [])),(.int 0),(.int 0)]),ZN (.store true 8 12 47)]) (.seq (.reg [ZA 48 (.load true 2 2),ZA 49 (.mov 8),ZA 50 (.mov 11),ZA 51 (.call 94 [48,49,50]),ZA 13 (.mov 51)]) (.seq (.seq (.reg [ZA 52 (.mov 13),ZA 53 (.bin .gtr 52 (.c (.int 0)))]) (.cond 53 (.seq (.reg [ZA 54 (.mov 8),ZA 55 (.fadr 6 12),ZA 56 (.load false 1 55),ZA 57 (.iadr none 1 54 56),ZA 58 (.load false 1 57),ZA 59 (.bin .sub 58 (.c (.int 1))),ZA 60 (.call 95 [59]),ZA 14 (.mov 60)]) (.seq (.reg [ZA 61 (.mov 14),ZA 62 (.mov 13),ZA 63 (.bin .sub (.c (.int 2)) 62),ZA 64 (.build [(.int 0),(.int 0)] [(0,(1,(.c (.int 1)))),(1,(1,63))]),ZA 65 (.lit 2 [(.v (.int .i64 0)),(.v (.int .i64 0))] 1 [(0,64)]),ZA 66 (.lit 1 [(.sl [])] 1 [(0,65)]),ZA 67 (.app 1 61 66),ZA 14 (.mov 67)]) (.reg [ZA 68 (.fadr 6 12),ZA 69 (.load false 1 68),ZA 70 (.mov 14),ZA 71 (.build [(.int 0),(.int 0),(.int 0),(.int 0),.zs,.zs,(.int 0),(.int 0)] [(0,(1,(.c (.int 4)))),(6,(1,69)),(5,(1,70))]),ZN (.store true 8 12 71)]))) .skip)) (.seq (.seq (.reg [ZA 72 (.mov 11),ZA 73 (.bin .add 72 (.c (.int 1))),ZA 15 (.mov 73)]) (.block 2 (.loop (.seq (.seq (.reg [ZA 74 (.mov 15),ZA 75 (.fadr 0 2),ZA 76 (.load false 1 75),ZA 77 (.lenl 76),ZA 78 (.bin .lss 74 77)]) (.cond 78 .skip (.exit 2))) (.seq (.block 3 (.seq (.reg [ZA 81 (.fadr 0 2),ZA 82 (.load false 1 81),ZA 83 (.mov 15),ZA 84 (.iadr none 8 82 83),ZA 85 (.fadr 6 84),ZA 86 (.load false 1 85),ZA 87 (.mov 11),ZA 88 (.bin .eql 86 87),ZA 89 (.mov 88),ZT 90 89 (.load true 2 2),ZT 91 89 (.mov 8),ZT 92 89 (.mov 15),ZT 93 89 (.call 94 [90,91,92]),ZT 94 89 (.bin .gtr 93 (.c (.int 0))),ZA 95 (.pick 89 94 (.c (.bool false)))]) (.cond 95 (.reg [ZA 96 (.load true 2 2),ZA 97 (.mov 8),ZA 98 (.mov 15),ZA 99 (.call 94 [96,97,98]),ZA 100 (.bin .add (.c (.int 10)) 99),ZA 101 (.bin .sub 100 (.c (.int 1))),ZA 102 (.fadr 0 12),ZN (.store false 1 102 101)]) .skip))) (.reg [ZA 79 (.mov 15),ZA 80 (.bin .add 79 (.c (.int 1))),ZA 15 (.mov 80)])))))) (.reg [ZA 103 (.fadr 0 10),ZA 104 (.load false 1 103),ZA 105 (.load true 8 12),ZA 106 (.lit 8 [(.v (.int .i64 0)),(.v (.int .i64 0)),(.v (.int .i64 0)),(.v (.int .i64 0)),(.sl []),(.sl []),(.v (.int .i64 0)),(.v (.int .i64 0))] 1 [(0,105)]),ZA 107 (.app 8 104 106),ZA 108 (.fadr 0 10),ZN (.store false 1 108 107)])))))) (.reg [ZA 40 (.mov 11),ZA 41 (.bin .add 40 (.c (.int 1))),ZA 11 (.mov 41)])))))) (.seq (.reg [ZA 109 (.load true 2 10),ZN (.store true 2 4 109),ZA 5 (.mov (.c (.bool true)))]) .ret)))))))⟩
theorem p42:prepF Try.prog 42=some c42:=by kernel_rfl
theorem Weak.bpl {h0:Hp} {env:List (Nat×D)} {hp:List O} {i:Nat} {ds:List D} (h:hpF hp i= .box ds):Weak h0 ⟨env,hp⟩ ⟨env,hp.set i (.box (ds.map D.pl))⟩:=
  Weak.bsub h (by simp) fun w G hi j d d' hd hd' v r=>by
    rw [List.getElem?_map,hd] at hd'
    cases hd'
    exact r.pl
theorem simS_get (ask:Fd->Int) (w:Int->Int) (ns:List Fd) (i:Nat) (d:Fd) (h:ns[i]?=some d):(simS ask w ns)[i]?=some (nodS ask w ns i d):=by
  rw [simS,List.getElem?_mapIdx,h]
  rfl
theorem simS_len (ask:Fd->Int) (w:Int->Int) (ns:List Fd):(simS ask w ns).length=ns.length:=by simp [simS]
abbrev H5 (x xt:List (List E)) (rt:Int) (tt:List (List E)) (n:Nat) (t:RF):List O:= [.box [.e (.sl x),.int rt],.box [.e (.sl xt)],.box [.e (.sl []),.int 0],.box [.own (t 4) tt,.int rt],.front n 8]
abbrev H6 (x xt:List (List E)) (rt:Int) (tt:List (List E)) (n:Nat) (K T M W:Int) (X Y:List (List E)) (L R:Int) (t:RF):List O:=
  [.box [.e (.sl x),.int rt],.box [.e (.sl xt)],.box [.e (.sl []),.int 0],.box [.own (t 4) tt,.int rt],.front n 8,.box [.int K,.int T,.int M,.int W,.e (.sl X),.e (.sl Y),.int L,.int R]]
theorem H5_side {env:RF->List (Nat×D)} {x xt:List (List E)} {rt:Int} {tt:List (List E)} {n:Nat} (h1: ∀t,env t=renEnv t (env id)) (h2:ltEnv 5 (env id)=true):SideW env (H5 x xt rt tt n):=
  ⟨h1,h2,fun t=>rfl,by
    intro o ho
    simp only [List.mem_cons,List.not_mem_nil,or_false] at ho
    rcases ho with rfl | rfl | rfl | rfl | rfl <;>rfl⟩
theorem H6_side {env:RF->List (Nat×D)} {x xt:List (List E)} {rt:Int} {tt:List (List E)} {n:Nat} {K T M W:Int} {X Y:List (List E)} {L R:Int} (h1: ∀t,env t=renEnv t (env id)) (h2:ltEnv 6 (env id)=true):SideW env (H6 x xt rt tt n K T M W X Y L R):=
  ⟨h1,h2,fun t=>rfl,by
    intro o ho
    simp only [List.mem_cons,List.not_mem_nil,or_false] at ho
    rcases ho with rfl | rfl | rfl | rfl | rfl | rfl <;>rfl⟩
structure Fok (ns:List Fd) (ws:List Int):Prop where
  len:ws.length=ns.length
  rng: ∀w∈ws,0<=w/\w<=200
  L: ∀(j:Nat) d,ns[j]?=some d->0<=d.L/\d.L<ns.length
abbrev wOf (ws:List Int) (i:Int):Int:=ws.getD i.toNat 0
set_option maxRecDepth 100000 in
set_option maxHeartbeats 16000000 in
theorem ok42 (ns:List Fd) (rt:Int) (x:List (List E)) (hx:x=ns.map fdr) (ts:List Tb) (xt:List (List E)) (hxt:xt=ts.map tbr) (hxl:x.length<=1048576) (hlen: ∀d∈ns,d.Ex.length<=1048576/\d.Exs.length<=1048576/\ ∀e∈d.Exs,e.length<=1048576) (hsz:cTS ts<=1048576)
    (ws:List Int) (b0:Bool) (hr0:runF ts.length (colsOf ts) ns []=(ws,b0))
    (b:Bool) (hb:b=((!decide ((x.length:Int)<1)&&(!decide (8000<(x.length:Int))&&(!decide (rt<0)&&(!decide ((x.length:Int)<=rt)&&dbOk ts))))&&b0)) (hwl:b0=true->ws.length=ns.length)
    (xo:List (List E)) (ro:Int) (h1:b=true->Fok ns ws/\xo=(simS (askS ns (wOf ws) rt) (wOf ws) ns).map fdr/\ro=rt) (h0:b=false->xo= []/\ro=0):
    Plain Try.prog 42 [.agg [.e (.sl x),.int rt],.agg [.e (.sl xt)]] (.tup [.agg [.e (.sl xo),.int ro],.bool b]):=okOf mixed p42 fun A P hA hP=>(by
  have hel:x.length=ns.length:=by rw [hx];simp
  obtain ⟨v,hv⟩: ∃v:Int,v=if b then ws.getD rt.toNat 0 else 0:=⟨_,rfl⟩
  have h211:=ok29 ns rt x hx ts xt hxt hxl hlen hsz ws b0 hr0 b hb v hv hwl
  cases hbb:b with
  | false=>
    subst hbb
    obtain ⟨rfl,rfl⟩:=h0 rfl
    clear hb hv h1
    cbv
    repeat' first | with_reducible rfl | with_reducible refine And.intro ?_ ?_ | ((with_reducible intro hcc);first | (cases hcc;done) | skip) | ((with_reducible first | show goC _ _ _ _ _ _ _ _ | show goOps _ _ _ _ _ | show goD _ _ _ _ _ _);cbv) | ((with_reducible show okWr _ _=_);rfl) | ((with_reducible first | refine callK_f hA hP h211 ?_ ?_ ?_);exact rfl;exact rfl;cbv) | ((with_reducible refine hA.fin_tup _ _ _ ?_)) | ((with_reducible first | refine hA.fin_pl _ _ _ ?_ | refine hA.len _ _ _ _ _ fun z hz hb=>?_ | refine hA.off _ _ _ _ fun b hb=>?_ | refine hA.plus _ _ _ fun b hb=>?_ | refine hA.alt _ _ (Or.inl ?_) | refine hA.gb0 true _ ?_ | refine hA.gb0 false _ ?_ | refine hA.gb _ _ fun vb hvb=>?_);cbv) | ((with_reducible first | refine hA.app _ _ _ _ _ ⟨?_,fun zs m hzs hm=>?_⟩ | refine hA.app0 _ _ _ ⟨?_,fun m hm=>?_⟩ | refine hA.st _ _ _ _ _ ⟨?_,fun ds hds=>?_⟩ | refine hA.appv _ _ _ _ _ _ ⟨?_,fun bb m ds hbb hm hds=>?_⟩ | refine hA.vcut _ _ _ _ ⟨?_,fun cs hcs=>?_⟩ | refine hA.appw _ _ _ _ _ _ _ ⟨?_,fun bb m ds hbb hm hds=>?_⟩ | refine hA.sapp _ _ _ ⟨?_,fun sl hsl=>?_⟩);rotate_left;cbv) | (simp only [hA.lits];cbv)
    all_goals try simp only [hA.ar,inR,n_cast,Int.ofNat_eq_natCast,Option.getD_some,Option.getD_none] at *
    all_goals first
      | rfl
      | (trace_state;fail)
  | true=>
    subst hbb
    have hb0:b0=true:=by
      cases b0 with
      | true=>rfl
      | false=>simp at hb
    subst hb0
    obtain ⟨fok,hxo,rfl⟩:=h1 rfl
    obtain ⟨xw,hxw⟩: ∃y,y=ws.map ir:=⟨_,rfl⟩
    have h237:=ok74 ns ro x hx ts xt hxt hxl hlen ws true hr0 xw hxw
    obtain ⟨ask,hask⟩: ∃f,f=askS ns (wOf ws) ro:=⟨_,rfl⟩
    rw [<-hask] at hxo
    have hxol:xo.length=x.length:=by rw [hxo,List.length_map,simS_len,hel]
    have hxwl:xw.length=ns.length:=by rw [hxw,List.length_map,fok.len]
    have hab: ∀d,0<=ask d/\ask d<=2:=fun d=>by rw [hask];exact askS_bnd ns _ ro d
    have h255: ∀(j:Int),(0:Int)<=j/\j<x.length-> ∀d,ns[j.toNat]?=some d->Plain Try.prog 94 [.agg [.e (.sl x),.int ro],.e (.sl xw),.int j] (.int (ask d)):=fun j hj d hd=>by
      rw [hask]
      exact ok94 ns ro x hx hxl (fun d hd=>(hlen d hd).1) ws xw hxw fok.len fok.rng j hj d hd (by have:=fok.L _ d hd;omega)
    obtain ⟨ze,hze⟩: ∃z:Int,z=x.length:=⟨_,rfl⟩
    clear hb hv h0 h1 hask
    cbv
    repeat' first | with_reducible rfl | with_reducible refine And.intro ?_ ?_ | ((with_reducible intro hcc);first | (cases hcc;done) | skip) | ((with_reducible first | show goC _ _ _ _ _ _ _ _ | show goOps _ _ _ _ _ | show goD _ _ _ _ _ _);cbv) | ((with_reducible show okWr _ _=_);rfl) | ((with_reducible first | refine callK_f hA hP h211 ?_ ?_ ?_ | refine callK_f hA hP h237 ?_ ?_ ?_);exact rfl;exact rfl;cbv) | ((with_reducible first | refine hA.fin_pl _ _ _ ?_ | refine hA.len _ _ _ _ _ fun z hz hb=>?_ | refine hA.off _ _ _ _ fun b hb=>?_ | refine hA.plus _ _ _ fun b hb=>?_ | refine hA.alt _ _ (Or.inl ?_) | refine hA.gb0 true _ ?_ | refine hA.gb0 false _ ?_ | refine hA.gb _ _ fun vb hvb=>?_);cbv) | ((with_reducible first | refine hA.app _ _ _ _ _ ⟨?_,fun zs m hzs hm=>?_⟩ | refine hA.app0 _ _ _ ⟨?_,fun m hm=>?_⟩ | refine hA.st _ _ _ _ _ ⟨?_,fun ds hds=>?_⟩ | refine hA.appv _ _ _ _ _ _ ⟨?_,fun bb m ds hbb hm hds=>?_⟩ | refine hA.vcut _ _ _ _ ⟨?_,fun cs hcs=>?_⟩ | refine hA.appw _ _ _ _ _ _ _ ⟨?_,fun bb m ds hbb hm hds=>?_⟩ | refine hA.sapp _ _ _ ⟨?_,fun sl hsl=>?_⟩);rotate_left;cbv) | (simp only [hA.lits];cbv)
    all_goals try simp only [hA.ar,inR,n_cast,Int.ofNat_eq_natCast,Option.getD_some,Option.getD_none] at *
    refine hA.loopI (fun m s=> ∃(i:Int) (tt:List (List E)),0<=i/\m+i=x.length/\tt=xo.take i.toNat/\s=⟨[(11,.int i),(8,.e (.sl xw)),(2,.ref 0 0),(10,.ref 3 0),(4,.ref 2 0)],H5 x xt ro tt tt.length id⟩) x.length _
      ((Weak.bzown (i:=3) 0 8 rfl rfl).trans (Weak.keep (env':= [(11,.int 0),(8,.e (.sl xw)),(2,.ref 0 0),(10,.ref 3 0),(4,.ref 2 0)]) ⟨rfl,rfl,rfl,rfl,rfl,trivial⟩))
      ⟨0, [],by omega,by omega,rfl,rfl⟩ ?_
    rintro m s K' ⟨i,tt,i0,i1,htt,rfl⟩ hK
    obtain ⟨q,hq⟩: ∃q,q=tt.length:=⟨_,rfl⟩
    have htl:tt.length=i.toNat:=by rw [htt,List.length_take];omega
    rw [<-hq]
    by_cases hin:(0:Int)<=i/\i<x.length
    case neg=>
      have e1:A.lt i ze=false:=by rw [hA.lt];exact decide_eq_false (by omega)
      have hxe:tt=xo:=by rw [htt];exact List.take_of_length_le (by omega)
      subst hxe
      clear hK htt
      cbv
      repeat' first | with_reducible rfl | (simp only [e1];cbv) | with_reducible refine And.intro ?_ ?_ | ((with_reducible intro hcc);first | (cases hcc;done) | skip) | ((with_reducible first | show goC _ _ _ _ _ _ _ _ | show goOps _ _ _ _ _ | show goD _ _ _ _ _ _);cbv) | ((with_reducible show okWr _ _=_);rfl) | ((with_reducible refine hA.len x _ _ _ _ fun z hz hb=>?_);(have e6:=hze.trans hz.symm);subst e6;cbv) | ((with_reducible refine hA.fin_tup _ _ _ ?_)) | ((with_reducible first | refine hA.fin_pl _ _ _ ?_ | refine hA.len _ _ _ _ _ fun z hz hb=>?_ | refine hA.off _ _ _ _ fun b hb=>?_ | refine hA.plus _ _ _ fun b hb=>?_ | refine hA.alt _ _ (Or.inl ?_) | refine hA.gb0 true _ ?_ | refine hA.gb0 false _ ?_ | refine hA.gb _ _ fun vb hvb=>?_);cbv) | ((with_reducible first | refine hA.app _ _ _ _ _ ⟨?_,fun zs m hzs hm=>?_⟩ | refine hA.app0 _ _ _ ⟨?_,fun m hm=>?_⟩ | refine hA.st _ _ _ _ _ ⟨?_,fun ds hds=>?_⟩ | refine hA.appv _ _ _ _ _ _ ⟨?_,fun bb m ds hbb hm hds=>?_⟩ | refine hA.vcut _ _ _ _ ⟨?_,fun cs hcs=>?_⟩ | refine hA.appw _ _ _ _ _ _ _ ⟨?_,fun bb m ds hbb hm hds=>?_⟩ | refine hA.sapp _ _ _ ⟨?_,fun sl hsl=>?_⟩);rotate_left;cbv) | (simp only [hA.lits];cbv)
      all_goals try simp only [hA.ar,inR,n_cast,Int.ofNat_eq_natCast,Option.getD_some,Option.getD_none] at *
      all_goals first
        | rfl
        | omega
        | (trace_state;fail)
    have e1:A.lt i ze=true:=by rw [hA.lt];exact decide_eq_true (by omega)
    obtain ⟨K,T,M,W,Ex,Exs,L,R,xe,ye,hd,hxe,hye,hrow0⟩:=fd_at hx hin
    obtain ⟨d,hdd⟩: ∃d:Fd,d=⟨K,T,M,W,Ex,Exs,L,R⟩:=⟨_,rfl⟩
    rw [<-hdd] at hd
    have hlen':=hlen d (List.mem_of_getElem? hd)
    have hLd:0<=d.L/\d.L<ns.length:=fok.L _ d hd
    have h254:=ok93 ⟨K,T,M,W,Ex,Exs,L,R⟩ xe ye hxe hye (by rw [hdd] at hlen';exact hlen'.1) (by rw [hdd] at hlen';exact hlen'.2.1) (by rw [hdd] at hlen';exact hlen'.2.2)
    have h255i:=h255 i hin d hd
    obtain ⟨a,ha⟩: ∃a,a=ask d:=⟨_,rfl⟩
    have hab':=hab d
    rw [<-ha] at h255i hab'
    obtain ⟨⟨Kb,Tb,Mb,Wb,ExB,ExsB,Lb,Rb⟩,hbase⟩: ∃n,n=baseS ask (wOf ws) d:=⟨_,rfl⟩
    obtain ⟨Xb,hXb⟩: ∃y,y=ExB.map orow:=⟨_,rfl⟩
    obtain ⟨Yb,hYb⟩: ∃y,y=ExsB.map orr:=⟨_,rfl⟩
    obtain ⟨Kf,hKf⟩: ∃k,k=kf ask i Kb (ns.drop (i.toNat+1)):=⟨_,rfl⟩
    have hrowF:xo.take (i+1).toNat=tt++ [[E.int Kf,E.int Tb,E.int Mb,E.int Wb,E.sl Xb,E.sl Yb,E.int Lb,E.int Rb]]:=by
      rw [show (i+1).toNat=i.toNat+1 by omega,List.take_add_one,<-htt,hxo,List.getElem?_map,simS_get ask _ ns _ d hd,nodS,<-hbase,hKf,show ((i.toNat:Nat):Int)=i by omega,hXb,hYb]
      rfl
    have hca:(a=0/\Kb=K/\Tb=T/\Mb=M/\Wb=W/\Xb=xe/\Yb=ye/\Lb=L/\Rb=R)\/(0<a/\Kb=4/\Tb=0/\Mb=0/\Wb=0/\Xb= []/\Yb=(mapX (wOf ws L) a).map orr/\Lb=L/\Rb=0):=by
      unfold baseS at hbase
      by_cases q:0<ask d
      · rw [if_pos q,mapN,<-ha,hdd] at hbase
        cases hbase
        exact .inr ⟨by omega,rfl,rfl,rfl,rfl,hXb,hYb,rfl,rfl⟩
      · rw [if_neg q,hdd] at hbase
        cases hbase
        exact .inl ⟨by omega,rfl,rfl,rfl,rfl,hXb.trans hxe.symm,hYb.trans hye.symm,rfl,rfl⟩
    have hLd':0<=L/\L<ns.length:=by rw [hdd] at hLd;exact hLd
    have hinW:(0:Int)<=L/\L<xw.length:=by omega
    have hrowW:=ir_row hxw hinW
    obtain ⟨w0,hw0⟩: ∃w,w=ws.getD L.toNat 0:=⟨_,rfl⟩
    rw [<-hw0] at hrowW
    have hwb:0<=w0/\w0<=200:=by
      have hl:L.toNat<ws.length:=by rw [hxw,List.length_map] at hinW;omega
      rw [hw0,List.getD,List.getElem?_eq_getElem hl]
      exact fok.rng _ (List.getElem_mem hl)
    obtain ⟨wm,hwm⟩: ∃w,w=A.sub w0 1:=⟨_,rfl⟩
    have hwm':wm=w0-1:=by rw [hwm,hA.sub]
    obtain ⟨es0,hes0⟩: ∃y,y=(colsE wm).map orr:=⟨_,rfl⟩
    have h256:=ok95 wm (by omega) es0 hes0
    have hel0:es0.length<=200:=by rw [hes0,List.length_map,colsE_len];omega
    obtain ⟨ne,hne⟩: ∃n,n=es0.length:=⟨_,rfl⟩
    rw [<-hne] at h256
    obtain ⟨a2,ha2⟩: ∃y,y=A.sub 2 a:=⟨_,rfl⟩
    have ha2':a2=2-a:=by rw [ha2,hA.sub]
    have hYm:0<a->Yb=es0++ [[E.sl [[E.int 1,E.int a2]]]]:=fun q=>by
      rcases hca with ⟨e,_⟩ | ⟨_,_,_,_,_,_,e,_⟩
      · omega
      · rw [e,mapX,List.map_append,hes0,hwm',hw0,ha2']
        rfl
    have hqb:q<=1048576:=by omega
    have goO: ∀(zs:List (List E)) (mm:Nat) (env:List (Nat×D)) (hp:List O),zs=tt++ [[E.int Kf,E.int Tb,E.int Mb,E.int Wb,E.sl Xb,E.sl Yb,E.int Lb,E.int Rb]]->mm=zs.length->hpAll (hpF hp) [0,1,2,3,4] (H5 x xt ro zs mm (pick [0,1,2,3,4]))->
        subW [(11,.int (i+1)),(8,.e (.sl xw)),(2,.ref 0 0),(10,.ref 3 0),(4,.ref 2 0)] env->K' ⟨env,hp⟩:=fun zs mm env hp q1 q2 q3 q4=>by
      subst q2
      exact hK _ (m-1) _ (by omega) (Weak.ren (l0:= []) [0,1,2,3,4] (fun t=> [(11,.int (i+1)),(8,.e (.sl xw)),(2,.ref (t 0) 0),(10,.ref (t 3) 0),(4,.ref (t 2) 0)]) (H5 x xt ro zs zs.length) rfl q4 q3 (H5_side (fun t=>rfl) rfl))
        ⟨i+1,zs,by omega,by omega,by rw [q1,hrowF],rfl⟩
    clear hK hrowF htt hbase hXb hYb hes0 hwm' hw0 ha2' hlen hlen' hxo hdd hxe hye fok
    rcases hca with ⟨rfl,rfl,rfl,rfl,rfl,rfl,rfl,rfl,rfl⟩ | ⟨hap,rfl,rfl,rfl,rfl,rfl,hY,rfl,rfl⟩
    · have e2:A.lt 0 0=false:=by rw [hA.lt];exact decide_eq_false (by omega)
      obtain ⟨a0,ha0⟩: ∃a:Int,a=0:=⟨_,rfl⟩
      rw [<-ha0] at h255i
      have e2:A.lt 0 a0=false:=by rw [hA.lt];exact decide_eq_false (by omega)
      cbv
      repeat' first | with_reducible rfl | (simp only [e1,e2];cbv) | with_reducible refine And.intro ?_ ?_ | ((with_reducible intro hcc);first | (cases hcc;done) | skip) | ((with_reducible first | show goC _ _ _ _ _ _ _ _ | show goOps _ _ _ _ _ | show goD _ _ _ _ _ _);cbv) | ((with_reducible show okWr _ _=_);rfl) | ((with_reducible first | refine callK_f hA hP h254 ?_ ?_ ?_ | refine callK_f hA hP h255i ?_ ?_ ?_);exact rfl;exact rfl;cbv) | ((with_reducible refine hA.len x _ _ _ _ fun z hz hb=>?_);(have e6:=hze.trans hz.symm);subst e6;cbv) | ((with_reducible refine hA.row x i _ ⟨hin,fun row hrow=>?_⟩);rw [hrow0] at hrow;subst hrow;cbv) | ((with_reducible first | refine hA.fin_pl _ _ _ ?_ | refine hA.len _ _ _ _ _ fun z hz hb=>?_ | refine hA.off _ _ _ _ fun b hb=>?_ | refine hA.plus _ _ _ fun b hb=>?_ | refine hA.alt _ _ (Or.inl ?_) | refine hA.gb0 true _ ?_ | refine hA.gb0 false _ ?_ | refine hA.gb _ _ fun vb hvb=>?_);cbv) | ((with_reducible first | refine hA.app _ _ _ _ _ ⟨?_,fun zs m hzs hm=>?_⟩ | refine hA.app0 _ _ _ ⟨?_,fun m hm=>?_⟩ | refine hA.st _ _ _ _ _ ⟨?_,fun ds hds=>?_⟩ | refine hA.appv _ _ _ _ _ _ ⟨?_,fun bb m ds hbb hm hds=>?_⟩ | refine hA.vcut _ _ _ _ ⟨?_,fun cs hcs=>?_⟩ | refine hA.appw _ _ _ _ _ _ _ ⟨?_,fun bb m ds hbb hm hds=>?_⟩ | refine hA.sapp _ _ _ ⟨?_,fun sl hsl=>?_⟩);rotate_left;cbv) | (simp only [hA.lits];cbv)
      all_goals try simp only [hA.ar,inR,n_cast,Int.ofNat_eq_natCast,Option.getD_some,Option.getD_none] at *
      all_goals try (first | omega | (have:=hb trivial trivial trivial;omega))
      refine hA.loopI (fun m2 s=> ∃(j Kc:Int),i+1<=j/\m2+j=x.length/\kf ask i Kc (ns.drop j.toNat)=Kf/\s=⟨[(15,.int j),(12,.ref 5 0),(11,.int i),(8,.e (.sl xw)),(2,.ref 0 0),(10,.ref 3 0),(4,.ref 2 0)],H6 x xt ro tt q Kc Tb Mb Wb Xb Yb Lb Rb id⟩) (x.length-(i+1)).toNat _
        (Weak.keep (env':= [(15,.int (i+1)),(12,.ref 5 0),(11,.int i),(8,.e (.sl xw)),(2,.ref 0 0),(10,.ref 3 0),(4,.ref 2 0)]) ⟨rfl,rfl,rfl,rfl,rfl,rfl,rfl,trivial⟩)
        ⟨i+1,_,by omega,by omega,by rw [show (i+1).toNat=i.toNat+1 by omega];exact hKf.symm,rfl⟩ ?_
      rintro m2 s K2 ⟨j,Kc,j0,j1,hkf,rfl⟩ hK2
      by_cases hjn:j<x.length
      · have e3:A.lt j ze=true:=by rw [hA.lt];exact decide_eq_true (by omega)
        have hinj:(0:Int)<=j/\j<x.length:=⟨by omega,hjn⟩
        obtain ⟨Kj,Tj,Mj,Wj,Exj,Exsj,Lj,Rj,xj,yj,hdj,_,_,hrowj⟩:=fd_at hx hinj
        have h255j:=h255 j hinj _ hdj
        have hdrop:ns.drop j.toNat=⟨Kj,Tj,Mj,Wj,Exj,Exsj,Lj,Rj⟩::ns.drop (j.toNat+1):=by
          obtain ⟨q1,q2⟩:=List.getElem?_eq_some_iff.1 hdj
          rw [List.drop_eq_getElem_cons q1,q2]
        rw [hdrop,kf] at hkf
        obtain ⟨aj,haj⟩: ∃a,a=ask ⟨Kj,Tj,Mj,Wj,Exj,Exsj,Lj,Rj⟩:=⟨_,rfl⟩
        have habj:=hab ⟨Kj,Tj,Mj,Wj,Exj,Exsj,Lj,Rj⟩
        rw [<-haj] at h255j hkf habj
        have go2: ∀(Kn:Int) (env:List (Nat×D)) (hp:List O),Kn=(if Lj=i/\0<aj then 10+aj-1 else Kc)->hp=H6 x xt ro tt q Kn Tb Mb Wb Xb Yb Lb Rb id->subL [(15,.int (j+1)),(12,.ref 5 0),(11,.int i),(8,.e (.sl xw)),(2,.ref 0 0),(10,.ref 3 0),(4,.ref 2 0)] env->K2 ⟨env,hp⟩:=fun Kn env hp q1 q2 q3=>by
          subst q2
          exact hK2 _ (m2-1) _ (by omega) (Weak.keep q3) ⟨j+1,Kn,by omega,by omega,by rw [show (j+1).toNat=j.toNat+1 by omega,q1];exact hkf,rfl⟩
        clear hK2 hkf haj hdj hdrop goO
        by_cases c8:Lj=i
        · have e8:A.eq Lj i=true:=by rw [hA.eq];exact decide_eq_true c8
          by_cases c9:0<aj
          · have e9:A.lt 0 aj=true:=by rw [hA.lt];exact decide_eq_true c9
            rw [if_pos ⟨c8,c9⟩] at go2
            cbv
            repeat' first | with_reducible rfl | (simp only [e3,e8,e9];cbv) | with_reducible refine And.intro ?_ ?_ | ((with_reducible intro hcc);first | (cases hcc;done) | skip) | ((with_reducible first | show goC _ _ _ _ _ _ _ _ | show goOps _ _ _ _ _ | show goD _ _ _ _ _ _);cbv) | ((with_reducible show okWr _ _=_);rfl) | ((with_reducible first | refine callK_f hA hP h255j ?_ ?_ ?_);exact rfl;exact rfl;cbv) | ((with_reducible refine hA.len x _ _ _ _ fun z hz hb=>?_);(have e6:=hze.trans hz.symm);subst e6;cbv) | ((with_reducible refine hA.row x j _ ⟨hinj,fun row hrow=>?_⟩);rw [hrowj] at hrow;subst hrow;cbv) | ((with_reducible first | refine hA.fin_pl _ _ _ ?_ | refine hA.len _ _ _ _ _ fun z hz hb=>?_ | refine hA.off _ _ _ _ fun b hb=>?_ | refine hA.plus _ _ _ fun b hb=>?_ | refine hA.alt _ _ (Or.inl ?_) | refine hA.gb0 true _ ?_ | refine hA.gb0 false _ ?_ | refine hA.gb _ _ fun vb hvb=>?_);cbv) | ((with_reducible first | refine hA.app _ _ _ _ _ ⟨?_,fun zs m hzs hm=>?_⟩ | refine hA.app0 _ _ _ ⟨?_,fun m hm=>?_⟩ | refine hA.st _ _ _ _ _ ⟨?_,fun ds hds=>?_⟩ | refine hA.appv _ _ _ _ _ _ ⟨?_,fun bb m ds hbb hm hds=>?_⟩ | refine hA.vcut _ _ _ _ ⟨?_,fun cs hcs=>?_⟩ | refine hA.appw _ _ _ _ _ _ _ ⟨?_,fun bb m ds hbb hm hds=>?_⟩ | refine hA.sapp _ _ _ ⟨?_,fun sl hsl=>?_⟩);rotate_left;cbv) | (simp only [hA.lits];cbv)
            all_goals try simp only [hA.ar,inR,n_cast,Int.ofNat_eq_natCast,Option.getD_some,Option.getD_none] at *
            all_goals first
              | omega
              | exact go2 _ _ _ rfl rfl ⟨rfl,rfl,rfl,rfl,rfl,rfl,rfl,trivial⟩
              | (have:=hb trivial trivial trivial;omega)
              | (trace_state;fail)
          · have e9:A.lt 0 aj=false:=by rw [hA.lt];exact decide_eq_false c9
            rw [if_neg (fun h=>c9 h.2)] at go2
            cbv
            repeat' first | with_reducible rfl | (simp only [e3,e8,e9];cbv) | with_reducible refine And.intro ?_ ?_ | ((with_reducible intro hcc);first | (cases hcc;done) | skip) | ((with_reducible first | show goC _ _ _ _ _ _ _ _ | show goOps _ _ _ _ _ | show goD _ _ _ _ _ _);cbv) | ((with_reducible show okWr _ _=_);rfl) | ((with_reducible first | refine callK_f hA hP h255j ?_ ?_ ?_);exact rfl;exact rfl;cbv) | ((with_reducible refine hA.len x _ _ _ _ fun z hz hb=>?_);(have e6:=hze.trans hz.symm);subst e6;cbv) | ((with_reducible refine hA.row x j _ ⟨hinj,fun row hrow=>?_⟩);rw [hrowj] at hrow;subst hrow;cbv) | ((with_reducible first | refine hA.fin_pl _ _ _ ?_ | refine hA.len _ _ _ _ _ fun z hz hb=>?_ | refine hA.off _ _ _ _ fun b hb=>?_ | refine hA.plus _ _ _ fun b hb=>?_ | refine hA.alt _ _ (Or.inl ?_) | refine hA.gb0 true _ ?_ | refine hA.gb0 false _ ?_ | refine hA.gb _ _ fun vb hvb=>?_);cbv) | ((with_reducible first | refine hA.app _ _ _ _ _ ⟨?_,fun zs m hzs hm=>?_⟩ | refine hA.app0 _ _ _ ⟨?_,fun m hm=>?_⟩ | refine hA.st _ _ _ _ _ ⟨?_,fun ds hds=>?_⟩ | refine hA.appv _ _ _ _ _ _ ⟨?_,fun bb m ds hbb hm hds=>?_⟩ | refine hA.vcut _ _ _ _ ⟨?_,fun cs hcs=>?_⟩ | refine hA.appw _ _ _ _ _ _ _ ⟨?_,fun bb m ds hbb hm hds=>?_⟩ | refine hA.sapp _ _ _ ⟨?_,fun sl hsl=>?_⟩);rotate_left;cbv) | (simp only [hA.lits];cbv)
            all_goals try simp only [hA.ar,inR,n_cast,Int.ofNat_eq_natCast,Option.getD_some,Option.getD_none] at *
            all_goals first
              | omega
              | exact go2 _ _ _ rfl rfl ⟨rfl,rfl,rfl,rfl,rfl,rfl,rfl,trivial⟩
              | (have:=hb trivial trivial trivial;omega)
              | (trace_state;fail)
        · have e8:A.eq Lj i=false:=by rw [hA.eq];exact decide_eq_false c8
          rw [if_neg (fun h=>c8 h.1)] at go2
          cbv
          repeat' first | with_reducible rfl | (simp only [e3,e8];cbv) | with_reducible refine And.intro ?_ ?_ | ((with_reducible intro hcc);first | (cases hcc;done) | skip) | ((with_reducible first | show goC _ _ _ _ _ _ _ _ | show goOps _ _ _ _ _ | show goD _ _ _ _ _ _);cbv) | ((with_reducible show okWr _ _=_);rfl) | ((with_reducible refine hA.len x _ _ _ _ fun z hz hb=>?_);(have e6:=hze.trans hz.symm);subst e6;cbv) | ((with_reducible refine hA.row x j _ ⟨hinj,fun row hrow=>?_⟩);rw [hrowj] at hrow;subst hrow;cbv) | ((with_reducible show A.call _ _ _ _ false _ _ _ _);refine callK_no hA (.int 0) ?_;cbv) | ((with_reducible first | refine hA.fin_pl _ _ _ ?_ | refine hA.len _ _ _ _ _ fun z hz hb=>?_ | refine hA.off _ _ _ _ fun b hb=>?_ | refine hA.plus _ _ _ fun b hb=>?_ | refine hA.alt _ _ (Or.inl ?_) | refine hA.gb0 true _ ?_ | refine hA.gb0 false _ ?_ | refine hA.gb _ _ fun vb hvb=>?_);cbv) | ((with_reducible first | refine hA.app _ _ _ _ _ ⟨?_,fun zs m hzs hm=>?_⟩ | refine hA.app0 _ _ _ ⟨?_,fun m hm=>?_⟩ | refine hA.st _ _ _ _ _ ⟨?_,fun ds hds=>?_⟩ | refine hA.appv _ _ _ _ _ _ ⟨?_,fun bb m ds hbb hm hds=>?_⟩ | refine hA.vcut _ _ _ _ ⟨?_,fun cs hcs=>?_⟩ | refine hA.appw _ _ _ _ _ _ _ ⟨?_,fun bb m ds hbb hm hds=>?_⟩ | refine hA.sapp _ _ _ ⟨?_,fun sl hsl=>?_⟩);rotate_left;cbv) | (simp only [hA.lits];cbv)
          all_goals try simp only [hA.ar,inR,n_cast,Int.ofNat_eq_natCast,Option.getD_some,Option.getD_none] at *
          all_goals first
            | omega
            | exact go2 _ _ _ rfl rfl ⟨rfl,rfl,rfl,rfl,rfl,rfl,rfl,trivial⟩
            | (have:=hb trivial trivial trivial;omega)
            | (trace_state;fail)
      · have e3:A.lt j ze=false:=by rw [hA.lt];exact decide_eq_false (by omega)
        have hKK:Kc=Kf:=by
          rw [List.drop_eq_nil_of_le (by omega)] at hkf
          exact hkf
        clear hK2 hkf hKf
        subst hKK
        cbv
        repeat' first | with_reducible rfl | (simp only [e3];cbv) | with_reducible refine And.intro ?_ ?_ | ((with_reducible intro hcc);first | (cases hcc;done) | skip) | ((with_reducible first | show goC _ _ _ _ _ _ _ _ | show goOps _ _ _ _ _ | show goD _ _ _ _ _ _);cbv) | ((with_reducible show okWr _ _=_);rfl) | ((with_reducible refine hA.len x _ _ _ _ fun z hz hb=>?_);(have e6:=hze.trans hz.symm);subst e6;cbv) | ((with_reducible first | refine hA.fin_pl _ _ _ ?_ | refine hA.len _ _ _ _ _ fun z hz hb=>?_ | refine hA.off _ _ _ _ fun b hb=>?_ | refine hA.plus _ _ _ fun b hb=>?_ | refine hA.alt _ _ (Or.inl ?_) | refine hA.gb0 true _ ?_ | refine hA.gb0 false _ ?_ | refine hA.gb _ _ fun vb hvb=>?_);cbv) | ((with_reducible first | refine hA.app _ _ _ _ _ ⟨?_,fun zs m hzs hm=>?_⟩ | refine hA.app0 _ _ _ ⟨?_,fun m hm=>?_⟩ | refine hA.st _ _ _ _ _ ⟨?_,fun ds hds=>?_⟩ | refine hA.appv _ _ _ _ _ _ ⟨?_,fun bb m ds hbb hm hds=>?_⟩ | refine hA.vcut _ _ _ _ ⟨?_,fun cs hcs=>?_⟩ | refine hA.appw _ _ _ _ _ _ _ ⟨?_,fun bb m ds hbb hm hds=>?_⟩ | refine hA.sapp _ _ _ ⟨?_,fun sl hsl=>?_⟩);rotate_left;cbv) | (simp only [hA.lits];cbv)
        all_goals try simp only [hA.ar,inR,n_cast,Int.ofNat_eq_natCast,Option.getD_some,Option.getD_none] at *
        all_goals first
          | omega
          | (rw [hq];done)
          | exact goO _ _ _ _ (by assumption) (by assumption) ⟨rfl,rfl,rfl,rfl,rfl,trivial⟩ ⟨.inl rfl,.inl rfl,.inl rfl,.inl rfl,.inl rfl,trivial⟩
          | exact ⟨rfl,trivial⟩
          | (simp only [List.length_cons,List.length_nil];omega)
          | (have:=hb trivial trivial trivial;omega)
          | (trace_state;fail)
    · have e2:A.lt 0 a=true:=by rw [hA.lt];exact decide_eq_true hap
      have hYm:=hYm hap
      cbv
      repeat' first | with_reducible rfl | (simp only [e1,e2,<-hwm,<-ha2];cbv) | with_reducible refine And.intro ?_ ?_ | ((with_reducible intro hcc);first | (cases hcc;done) | skip) | ((with_reducible first | show goC _ _ _ _ _ _ _ _ | show goOps _ _ _ _ _ | show goD _ _ _ _ _ _);cbv) | ((with_reducible show okWr _ _=_);rfl) | ((with_reducible first | refine callK_f hA hP h254 ?_ ?_ ?_ | refine callK_f hA hP h255i ?_ ?_ ?_);exact rfl;exact rfl;cbv) | ((with_reducible show A.call _ _ _ _ _ 95 _ _ _);have hc:=h256;refine callK_pr hA hP [] (by rfl) (by exact trivial) (Wks.refl _) ?_ (fun _ _=>hc) hc.side;cbv) | ((with_reducible refine hA.len x _ _ _ _ fun z hz hb=>?_);(have e6:=hze.trans hz.symm);subst e6;cbv) | ((with_reducible refine hA.row x i _ ⟨hin,fun row hrow=>?_⟩);rw [hrow0] at hrow;subst hrow;cbv) | ((with_reducible refine hA.row xw Lb _ ⟨hinW,fun row hrow=>?_⟩);rw [hrowW] at hrow;subst hrow;cbv) | ((with_reducible first | refine hA.fin_pl _ _ _ ?_ | refine hA.len _ _ _ _ _ fun z hz hb=>?_ | refine hA.off _ _ _ _ fun b hb=>?_ | refine hA.plus _ _ _ fun b hb=>?_ | refine hA.alt _ _ (Or.inl ?_) | refine hA.gb0 true _ ?_ | refine hA.gb0 false _ ?_ | refine hA.gb _ _ fun vb hvb=>?_);cbv) | ((with_reducible first | refine hA.app _ _ _ _ _ ⟨?_,fun zs m hzs hm=>?_⟩ | refine hA.app0 _ _ _ ⟨?_,fun m hm=>?_⟩ | refine hA.st _ _ _ _ _ ⟨?_,fun ds hds=>?_⟩ | refine hA.appv _ _ _ _ _ _ ⟨?_,fun bb m ds hbb hm hds=>?_⟩ | refine hA.vcut _ _ _ _ ⟨?_,fun cs hcs=>?_⟩ | refine hA.appw _ _ _ _ _ _ _ ⟨?_,fun bb m ds hbb hm hds=>?_⟩ | refine hA.sapp _ _ _ ⟨?_,fun sl hsl=>?_⟩);rotate_left;cbv) | (simp only [hA.lits];cbv)
      all_goals try simp only [hA.ar,inR,n_cast,Int.ofNat_eq_natCast,Option.getD_some,Option.getD_none] at *
      all_goals try (first | omega | (rw [hne];done) | (have:=hb trivial trivial trivial;omega) | exact ⟨rfl,trivial⟩ | (simp only [List.length_cons,List.length_nil];omega))
      have hzY:=hzs.trans hYm.symm
      subst hzY
      refine hA.loopI (fun m2 s=> ∃(j Kc:Int),i+1<=j/\m2+j=x.length/\kf ask i Kc (ns.drop j.toNat)=Kf/\s=⟨[(15,.int j),(12,.ref 5 0),(11,.int i),(8,.e (.sl xw)),(2,.ref 0 0),(10,.ref 3 0),(4,.ref 2 0)],H6 x xt ro tt q Kc 0 0 0 [] zs Lb 0 id⟩) (x.length-(i+1)).toNat _
        ((Weak.bpl (i:=5) rfl).trans (Weak.ren (l0:= []) [0,1,2,3,4,5] (fun t=> [(15,.int (i+1)),(12,.ref (t 5) 0),(11,.int i),(8,.e (.sl xw)),(2,.ref (t 0) 0),(10,.ref (t 3) 0),(4,.ref (t 2) 0)]) (H6 x xt ro tt q 4 0 0 0 [] zs Lb 0) rfl ⟨.inl rfl,.inl rfl,.inl rfl,.inl rfl,.inl rfl,.inl rfl,.inl rfl,trivial⟩ ⟨rfl,rfl,rfl,rfl,rfl,rfl,trivial⟩ (H6_side (fun t=>rfl) rfl)))
        ⟨i+1,_,by omega,by omega,by rw [show (i+1).toNat=i.toNat+1 by omega];exact hKf.symm,rfl⟩ ?_
      rintro m2 s K2 ⟨j,Kc,j0,j1,hkf,rfl⟩ hK2
      by_cases hjn:j<x.length
      · have e3:A.lt j ze=true:=by rw [hA.lt];exact decide_eq_true (by omega)
        have hinj:(0:Int)<=j/\j<x.length:=⟨by omega,hjn⟩
        obtain ⟨Kj,Tj,Mj,Wj,Exj,Exsj,Lj,Rj,xj,yj,hdj,_,_,hrowj⟩:=fd_at hx hinj
        have h255j:=h255 j hinj _ hdj
        have hdrop:ns.drop j.toNat=⟨Kj,Tj,Mj,Wj,Exj,Exsj,Lj,Rj⟩::ns.drop (j.toNat+1):=by
          obtain ⟨q1,q2⟩:=List.getElem?_eq_some_iff.1 hdj
          rw [List.drop_eq_getElem_cons q1,q2]
        rw [hdrop,kf] at hkf
        obtain ⟨aj,haj⟩: ∃a,a=ask ⟨Kj,Tj,Mj,Wj,Exj,Exsj,Lj,Rj⟩:=⟨_,rfl⟩
        have habj:=hab ⟨Kj,Tj,Mj,Wj,Exj,Exsj,Lj,Rj⟩
        rw [<-haj] at h255j hkf habj
        have go2: ∀(Kn:Int) (env:List (Nat×D)) (hp:List O),Kn=(if Lj=i/\0<aj then 10+aj-1 else Kc)->hp=H6 x xt ro tt q Kn 0 0 0 [] zs Lb 0 id->subL [(15,.int (j+1)),(12,.ref 5 0),(11,.int i),(8,.e (.sl xw)),(2,.ref 0 0),(10,.ref 3 0),(4,.ref 2 0)] env->K2 ⟨env,hp⟩:=fun Kn env hp q1 q2 q3=>by
          subst q2
          exact hK2 _ (m2-1) _ (by omega) (Weak.keep q3) ⟨j+1,Kn,by omega,by omega,by rw [show (j+1).toNat=j.toNat+1 by omega,q1];exact hkf,rfl⟩
        clear hK2 hkf haj hdj hdrop goO
        by_cases c8:Lj=i
        · have e8:A.eq Lj i=true:=by rw [hA.eq];exact decide_eq_true c8
          by_cases c9:0<aj
          · have e9:A.lt 0 aj=true:=by rw [hA.lt];exact decide_eq_true c9
            rw [if_pos ⟨c8,c9⟩] at go2
            cbv
            repeat' first | with_reducible rfl | (simp only [e3,e8,e9];cbv) | with_reducible refine And.intro ?_ ?_ | ((with_reducible intro hcc);first | (cases hcc;done) | skip) | ((with_reducible first | show goC _ _ _ _ _ _ _ _ | show goOps _ _ _ _ _ | show goD _ _ _ _ _ _);cbv) | ((with_reducible show okWr _ _=_);rfl) | ((with_reducible first | refine callK_f hA hP h255j ?_ ?_ ?_);exact rfl;exact rfl;cbv) | ((with_reducible refine hA.len x _ _ _ _ fun z hz hb=>?_);(have e6:=hze.trans hz.symm);subst e6;cbv) | ((with_reducible refine hA.row x j _ ⟨hinj,fun row hrow=>?_⟩);rw [hrowj] at hrow;subst hrow;cbv) | ((with_reducible first | refine hA.fin_pl _ _ _ ?_ | refine hA.len _ _ _ _ _ fun z hz hb=>?_ | refine hA.off _ _ _ _ fun b hb=>?_ | refine hA.plus _ _ _ fun b hb=>?_ | refine hA.alt _ _ (Or.inl ?_) | refine hA.gb0 true _ ?_ | refine hA.gb0 false _ ?_ | refine hA.gb _ _ fun vb hvb=>?_);cbv) | ((with_reducible first | refine hA.app _ _ _ _ _ ⟨?_,fun zs m hzs hm=>?_⟩ | refine hA.app0 _ _ _ ⟨?_,fun m hm=>?_⟩ | refine hA.st _ _ _ _ _ ⟨?_,fun ds hds=>?_⟩ | refine hA.appv _ _ _ _ _ _ ⟨?_,fun bb m ds hbb hm hds=>?_⟩ | refine hA.vcut _ _ _ _ ⟨?_,fun cs hcs=>?_⟩ | refine hA.appw _ _ _ _ _ _ _ ⟨?_,fun bb m ds hbb hm hds=>?_⟩ | refine hA.sapp _ _ _ ⟨?_,fun sl hsl=>?_⟩);rotate_left;cbv) | (simp only [hA.lits];cbv)
            all_goals try simp only [hA.ar,inR,n_cast,Int.ofNat_eq_natCast,Option.getD_some,Option.getD_none] at *
            all_goals first
              | omega
              | exact go2 _ _ _ rfl rfl ⟨rfl,rfl,rfl,rfl,rfl,rfl,rfl,trivial⟩
              | (have:=hb trivial trivial trivial;omega)
              | (trace_state;fail)
          · have e9:A.lt 0 aj=false:=by rw [hA.lt];exact decide_eq_false c9
            rw [if_neg (fun h=>c9 h.2)] at go2
            cbv
            repeat' first | with_reducible rfl | (simp only [e3,e8,e9];cbv) | with_reducible refine And.intro ?_ ?_ | ((with_reducible intro hcc);first | (cases hcc;done) | skip) | ((with_reducible first | show goC _ _ _ _ _ _ _ _ | show goOps _ _ _ _ _ | show goD _ _ _ _ _ _);cbv) | ((with_reducible show okWr _ _=_);rfl) | ((with_reducible first | refine callK_f hA hP h255j ?_ ?_ ?_);exact rfl;exact rfl;cbv) | ((with_reducible refine hA.len x _ _ _ _ fun z hz hb=>?_);(have e6:=hze.trans hz.symm);subst e6;cbv) | ((with_reducible refine hA.row x j _ ⟨hinj,fun row hrow=>?_⟩);rw [hrowj] at hrow;subst hrow;cbv) | ((with_reducible first | refine hA.fin_pl _ _ _ ?_ | refine hA.len _ _ _ _ _ fun z hz hb=>?_ | refine hA.off _ _ _ _ fun b hb=>?_ | refine hA.plus _ _ _ fun b hb=>?_ | refine hA.alt _ _ (Or.inl ?_) | refine hA.gb0 true _ ?_ | refine hA.gb0 false _ ?_ | refine hA.gb _ _ fun vb hvb=>?_);cbv) | ((with_reducible first | refine hA.app _ _ _ _ _ ⟨?_,fun zs m hzs hm=>?_⟩ | refine hA.app0 _ _ _ ⟨?_,fun m hm=>?_⟩ | refine hA.st _ _ _ _ _ ⟨?_,fun ds hds=>?_⟩ | refine hA.appv _ _ _ _ _ _ ⟨?_,fun bb m ds hbb hm hds=>?_⟩ | refine hA.vcut _ _ _ _ ⟨?_,fun cs hcs=>?_⟩ | refine hA.appw _ _ _ _ _ _ _ ⟨?_,fun bb m ds hbb hm hds=>?_⟩ | refine hA.sapp _ _ _ ⟨?_,fun sl hsl=>?_⟩);rotate_left;cbv) | (simp only [hA.lits];cbv)
            all_goals try simp only [hA.ar,inR,n_cast,Int.ofNat_eq_natCast,Option.getD_some,Option.getD_none] at *
            all_goals first
              | omega
              | exact go2 _ _ _ rfl rfl ⟨rfl,rfl,rfl,rfl,rfl,rfl,rfl,trivial⟩
              | (have:=hb trivial trivial trivial;omega)
              | (trace_state;fail)
        · have e8:A.eq Lj i=false:=by rw [hA.eq];exact decide_eq_false c8
          rw [if_neg (fun h=>c8 h.1)] at go2
          cbv
          repeat' first | with_reducible rfl | (simp only [e3,e8];cbv) | with_reducible refine And.intro ?_ ?_ | ((with_reducible intro hcc);first | (cases hcc;done) | skip) | ((with_reducible first | show goC _ _ _ _ _ _ _ _ | show goOps _ _ _ _ _ | show goD _ _ _ _ _ _);cbv) | ((with_reducible show okWr _ _=_);rfl) | ((with_reducible refine hA.len x _ _ _ _ fun z hz hb=>?_);(have e6:=hze.trans hz.symm);subst e6;cbv) | ((with_reducible refine hA.row x j _ ⟨hinj,fun row hrow=>?_⟩);rw [hrowj] at hrow;subst hrow;cbv) | ((with_reducible show A.call _ _ _ _ false _ _ _ _);refine callK_no hA (.int 0) ?_;cbv) | ((with_reducible first | refine hA.fin_pl _ _ _ ?_ | refine hA.len _ _ _ _ _ fun z hz hb=>?_ | refine hA.off _ _ _ _ fun b hb=>?_ | refine hA.plus _ _ _ fun b hb=>?_ | refine hA.alt _ _ (Or.inl ?_) | refine hA.gb0 true _ ?_ | refine hA.gb0 false _ ?_ | refine hA.gb _ _ fun vb hvb=>?_);cbv) | ((with_reducible first | refine hA.app _ _ _ _ _ ⟨?_,fun zs m hzs hm=>?_⟩ | refine hA.app0 _ _ _ ⟨?_,fun m hm=>?_⟩ | refine hA.st _ _ _ _ _ ⟨?_,fun ds hds=>?_⟩ | refine hA.appv _ _ _ _ _ _ ⟨?_,fun bb m ds hbb hm hds=>?_⟩ | refine hA.vcut _ _ _ _ ⟨?_,fun cs hcs=>?_⟩ | refine hA.appw _ _ _ _ _ _ _ ⟨?_,fun bb m ds hbb hm hds=>?_⟩ | refine hA.sapp _ _ _ ⟨?_,fun sl hsl=>?_⟩);rotate_left;cbv) | (simp only [hA.lits];cbv)
          all_goals try simp only [hA.ar,inR,n_cast,Int.ofNat_eq_natCast,Option.getD_some,Option.getD_none] at *
          all_goals first
            | omega
            | exact go2 _ _ _ rfl rfl ⟨rfl,rfl,rfl,rfl,rfl,rfl,rfl,trivial⟩
            | (have:=hb trivial trivial trivial;omega)
            | (trace_state;fail)
      · have e3:A.lt j ze=false:=by rw [hA.lt];exact decide_eq_false (by omega)
        have hKK:Kc=Kf:=by
          rw [List.drop_eq_nil_of_le (by omega)] at hkf
          exact hkf
        clear hK2 hkf hKf
        subst hKK
        cbv
        repeat' first | with_reducible rfl | (simp only [e3];cbv) | with_reducible refine And.intro ?_ ?_ | ((with_reducible intro hcc);first | (cases hcc;done) | skip) | ((with_reducible first | show goC _ _ _ _ _ _ _ _ | show goOps _ _ _ _ _ | show goD _ _ _ _ _ _);cbv) | ((with_reducible show okWr _ _=_);rfl) | ((with_reducible refine hA.len x _ _ _ _ fun z hz hb=>?_);(have e6:=hze.trans hz.symm);subst e6;cbv) | ((with_reducible first | refine hA.fin_pl _ _ _ ?_ | refine hA.len _ _ _ _ _ fun z hz hb=>?_ | refine hA.off _ _ _ _ fun b hb=>?_ | refine hA.plus _ _ _ fun b hb=>?_ | refine hA.alt _ _ (Or.inl ?_) | refine hA.gb0 true _ ?_ | refine hA.gb0 false _ ?_ | refine hA.gb _ _ fun vb hvb=>?_);cbv) | ((with_reducible first | refine hA.app _ _ _ _ _ ⟨?_,fun zs m hzs hm=>?_⟩ | refine hA.app0 _ _ _ ⟨?_,fun m hm=>?_⟩ | refine hA.st _ _ _ _ _ ⟨?_,fun ds hds=>?_⟩ | refine hA.appv _ _ _ _ _ _ ⟨?_,fun bb m ds hbb hm hds=>?_⟩ | refine hA.vcut _ _ _ _ ⟨?_,fun cs hcs=>?_⟩ | refine hA.appw _ _ _ _ _ _ _ ⟨?_,fun bb m ds hbb hm hds=>?_⟩ | refine hA.sapp _ _ _ ⟨?_,fun sl hsl=>?_⟩);rotate_left;cbv) | (simp only [hA.lits];cbv)
        all_goals try simp only [hA.ar,inR,n_cast,Int.ofNat_eq_natCast,Option.getD_some,Option.getD_none] at *
        all_goals first
          | omega
          | (rw [hq];done)
          | exact goO _ _ _ _ (by assumption) (by assumption) ⟨rfl,rfl,rfl,rfl,rfl,trivial⟩ ⟨.inl rfl,.inl rfl,.inl rfl,.inl rfl,.inl rfl,trivial⟩
          | exact ⟨rfl,trivial⟩
          | (simp only [List.length_cons,List.length_nil];omega)
          | (have:=hb trivial trivial trivial;omega)
          | (trace_state;fail))
end Go.Proofs.Ytfplalbognalkaa.Ab
/- Buffers of numbers. -/
namespace Go.Proofs.Ytfplalbognalkaa.Ab
open Go
def dsI (c:List Int):List D:=c.map fun k=> .int k
theorem dsI_len (c:List Int):(dsI c).length=c.length:=by simp [dsI]
theorem dsI_ren (t:RF) (c:List Int):rens t (dsI c)=dsI c:=by
  induction c with
  | nil=>rfl
  | cons r c ih=>show D.int r::rens t (dsI c)=_;rw [ih];rfl
theorem dsI_lt (m:Nat) (c:List Int):lts m (dsI c)=true:=by
  induction c with
  | nil=>rfl
  | cons r c ih=>show (true&&lts m (dsI c))=true;rw [ih];rfl
theorem dsI_get {c:List Int} {ds:List D} {off:Nat} {d:D} {v:Int} (hd:ds=dsI c) (ho:c[off]?=some v) (h:d=ds.getD off default):d= .int v:=by
  subst hd
  rw [h]
  simp [dsI,List.getD,ho]
theorem dsI_set {c:List Int} {ds ds':List D} {off:Nat} {r:Int} (hd:ds=dsI c) (ho:off<c.length) (h:ds'=ds.take off++ [D.int r]++ds.drop (off+1)):ds'=dsI (c.set off r):=by
  subst hd
  rw [h,dsI,dsI,List.map_set,List.set_eq_take_append_cons_drop,if_pos (by simpa using ho)]
  simp
theorem rep_dsI (n:Nat):(List.replicate n [D.int 0]).flatten=dsI (List.replicate n 0):=by
  induction n with
  | zero=>rfl
  | succ n ih=>rw [List.replicate_succ,List.flatten_cons,ih];rfl
end Go.Proofs.Ytfplalbognalkaa.Ab
/- The program's simplified plans, walked: the copies. -/
namespace Go.Proofs.Ytfplalbognalkaa.Ab
open Go
def c43:F:=⟨162, [(.cell 4 true 2),(.tmp 5)],(.seq (.reg [ZA 2 (.box 0),ZA 3 (.box 1),ZA 4 (.alloc [(.e (.sl [])),(.int 0)]),ZA 5 (.mov (.c (.bool false)))]) (.seq (.reg [ZA 19 (.load true 2 2),ZA 20 (.load true 1 3),ZA 21 (.call 77 [19,20]),ZA 18 (.mov 21),ZA 22 (.ext 0 18),ZA 23 (.ext 1 18),ZA 6 (.mov 22),ZA 7 (.mov 23)]) (.seq (.seq (.reg [ZA 24 (.mov 7),ZA 25 (.un .not 24)]) (.cond 25 (.seq (.reg [ZA 26 (.build [.zs,(.int 0)] []),ZN (.store true 2 4 26),ZA 5 (.mov (.c (.bool false)))]) .ret) .skip)) (.seq (.reg [ZA 27 (.fadr 0 2),ZA 28 (.load false 1 27),ZA 29 (.lenl 28),ZA 30 (.mks [(.int 0)] 29),ZA 8 (.mov 30)]) (.seq (.reg [ZA 31 (.mov 8),ZA 32 (.fadr 1 2),ZA 33 (.load false 1 32),ZA 34 (.iadr none 1 31 33),ZA 35 (.load false 1 34),ZA 36 (.bin .add 35 (.c (.int 1))),ZA 37 (.iadr none 1 31 33),ZN (.store false 1 37 36)]) (.seq (.reg [ZA 38 (.fadr 1 2),ZA 39 (.load false 1 38),ZA 40 (.build [.zs,(.int 0)] [(1,(1,39))]),ZA 9 (.alloc [(.e (.sl [])),(.int 0)]),ZN (.store true 2 9 40)]) (.seq (.seq (.reg [ZA 41 (.fadr 0 2),ZA 42 (.load false 1 41),ZA 43 (.lenl 42),ZA 44 (.mov (.c (.int 0)))]) (.block 0 (.loop (.seq (.reg [ZA 45 (.bin .lss 44 43)]) (.seq (.cond 45 .skip (.exit 0)) (.seq (.block 1 (.seq (.reg [ZA 46 (.iadr none 8 42 44),ZA 47 (.load true 8 46),ZA 11 (.alloc [(.int 0),(.int 0),(.int 0),(.int 0),(.e (.sl [])),(.e (.sl [])),(.int 0),(.int 0)]),ZN (.store true 8 11 47)]) (.seq (.seq (.reg [ZA 48 (.fadr 0 11),ZA 49 (.load false 1 48),ZA 50 (.call 96 [49])]) (.cond 50 (.reg [ZA 51 (.mov 8),ZA 52 (.fadr 6 11),ZA 53 (.load false 1 52),ZA 54 (.iadr none 1 51 53),ZA 55 (.load false 1 54),ZA 56 (.bin .add 55 (.c (.int 1))),ZA 57 (.iadr none 1 51 53),ZN (.store false 1 57 56)]) .skip)) (.seq (.seq (.reg [ZA 58 (.fadr 0 11),ZA 59 (.load false 1 58),ZA 60 (.call 97 [59])]) (.cond 60 (.reg [ZA 61 (.mov 8),ZA 62 (.fadr 7 11),ZA 63 (.load false 1 62),ZA 64 (.iadr none 1 61 63),ZA 65 (.load false 1 64),ZA 66 (.bin .add 65 (.c (.int 1))),ZA 67 (.iadr none 1 61 63),ZN (.store false 1 67 66)]) .skip)) (.seq (.dreg [⟨ZA 68 (.fadr 4 11), [], [11]⟩,⟨ZA 69 (.load false 1 68), [], [68]⟩,⟨ZA 70 (.call 98 [69]), [], [69]⟩,⟨ZA 71 (.fadr 5 11), [0,1,2], [11]⟩,⟨ZA 72 (.load false 1 71), [0,1,2], [71]⟩,⟨ZA 73 (.call 99 [72]), [], [72]⟩,⟨ZA 74 (.fadr 4 11), [5], [11]⟩,⟨ZN (.store false 1 74 70), [], [74,70]⟩,⟨ZA 75 (.fadr 5 11), [], [11]⟩,⟨ZN (.store false 1 75 73), [], [75,73]⟩]) (.reg [ZA 76 (.fadr 0 9),ZA 77 (.load false 1 76),ZA 78 (.load true 8 11),ZA 79 (.lit 8 [(.v (.int .i64 0)),(.v (.int .i64 0)),(.v (.int .i64 0)),(.v (.int .i64 0)),(.sl []),(.sl []),(.v (.int .i64 0)),(.v (.int .i64 0))] 1 [(0,78)]),ZA 80 (.app 8 77 79),ZA 81 (.fadr 0 9),ZN (.store false 1 81 80)])))))) (.reg [ZA 82 (.bin .add 44 (.c (.int 1))),ZA 44 (.mov 82)]))))))) (.seq (.seq (.reg [ZA 83 (.fadr 0 2),ZA 84 (.load false 1 83),ZA 85 (.lenl 84),ZA 86 (.mov (.c (.int 0)))]) (.block 2 (.loop (.seq (.reg [ZA 87 (.bin .lss 86 85)]) (.seq (.cond 87 .skip (.exit 2)) (.seq (.block 3 (.seq (.reg [ZA 88 (.mov 86),ZA 89 (.iadr none 8 84 86),ZA 90 (.load true 8 89),ZA 13 (.alloc [(.int 0),(.int 0),(.int 0),(.int 0),(.e (.sl [])),(.e (.sl [])),(.int 0),(.int 0)]),ZA 12 (.mov 88),ZN (.store true 8 13 90)]) (.seq (.seq (.reg [ZA 91 (.fadr 0 13),ZA 92 (.load false 1 91),ZA 93 (.bin .neq 92 (.c (.int 3))),ZA 94 (.mov 93),ZF 95 94 (.fadr 0 2),ZF 96 94 (.load false 1 95),ZF 97 94 (.fadr 6 13),ZF 98 94 (.load false 1 97),ZF 99 94 (.iadr none 8 96 98),ZF 100 94 (.fadr 0 99),ZF 101 94 (.load false 1 100),ZF 102 94 (.bin .neq 101 (.c (.int 6))),ZA 103 (.pick 94 (.c (.bool true)) 102),ZA 104 (.mov 103),ZF 105 104 (.mov 8),ZF 106 104 (.fadr 6 13),ZF 107 104 (.load false 1 106),ZF 108 104 (.iadr none 1 105 107),ZF 109 104 (.load false 1 108),ZF 110 104 (.bin .neq 109 (.c (.int 1))),ZA 111 (.pick 104 (.c (.bool true)) 110)]) (.cond 111 (.exit 3) .skip)) (.seq (.reg [ZA 112 (.mov 6),ZA 113 (.fadr 6 13),ZA 114 (.load false 1 113),ZA 115 (.iadr none 1 112 114),ZA 116 (.load false 1 115),ZA 117 (.bin .sub 116 (.c (.int 1))),ZA 14 (.mov 117)]) (.seq (.reg [ZA 118 (.fadr 4 13),ZA 119 (.load false 1 118),ZA 120 (.mov 14),ZA 121 (.call 100 [119,120]),ZA 15 (.mov 121)]) (.seq (.seq (.reg [ZA 122 (.mov 15),ZA 123 (.bin .eql 122 (.c (.int 0)))]) (.cond 123 (.exit 3) .skip)) (.seq (.reg [ZA 124 (.lit 1 [(.sl [])] 0 []),ZA 16 (.mov 124)]) (.seq (.seq (.reg [ZA 125 (.mov 14),ZA 126 (.mov (.c (.int 0)))]) (.block 4 (.loop (.seq (.reg [ZA 127 (.bin .lss 126 125)]) (.seq (.cond 127 .skip (.exit 4)) (.seq (.block 5 (.seq (.reg [ZA 128 (.mov 126),ZA 17 (.mov 128)]) (.reg [ZA 129 (.mov 16),ZA 130 (.mov 17),ZA 131 (.call 101 [130]),ZA 132 (.lit 1 [(.sl [])] 1 [(0,131)]),ZA 133 (.app 1 129 132),ZA 16 (.mov 133)]))) (.reg [ZA 134 (.bin .add 126 (.c (.int 1))),ZA 126 (.mov 134)]))))))) (.seq (.reg [ZA 135 (.mov 16),ZA 136 (.mov 15),ZA 137 (.bin .sub (.c (.int 2)) 136),ZA 138 (.build [(.int 0),(.int 0)] [(0,(1,(.c (.int 1)))),(1,(1,137))]),ZA 139 (.lit 2 [(.v (.int .i64 0)),(.v (.int .i64 0))] 1 [(0,138)]),ZA 140 (.lit 1 [(.sl [])] 1 [(0,139)]),ZA 141 (.app 1 135 140),ZA 16 (.mov 141)]) (.seq (.dreg [⟨ZA 142 (.fadr 0 9), [], [9]⟩,⟨ZA 143 (.load false 1 142), [], [142]⟩,⟨ZA 144 (.fadr 6 13), [0,1], [13]⟩,⟨ZA 145 (.load false 1 144), [0,1], [144]⟩,⟨ZA 146 (.lit 1 [(.v (.int .i64 0))] 3 [(0,(.c (.int 0))),(1,(.c (.int 10))),(2,(.c (.int 11)))]), [0,1,2,3], []⟩,⟨ZA 147 (.mov 15), [0,1,2,3,4], [15]⟩,⟨ZA 148 (.iadr none 1 146 147), [0,1,2,3], [146,147]⟩,⟨ZA 149 (.load false 1 148), [0,1,2,3], [148]⟩,⟨ZA 150 (.iadr none 8 143 145), [], [143,145]⟩,⟨ZA 151 (.fadr 0 150), [], [150]⟩,⟨ZN (.store false 1 151 149), [], [151,149]⟩]) (.reg [ZA 152 (.fadr 0 9),ZA 153 (.load false 1 152),ZA 154 (.mov 12),ZA 155 (.mov 16),ZA 156 (.fadr 6 13),ZA 157 (.load false 1 156),ZA 158 (.build [(.int 0),(.int 0),(.int 0),(.int 0),.zs,.zs,(.int 0),(.int 0)] [(0,(1,(.c (.int 4)))),(5,(1,155)),(6,(1,157))]),ZA 159 (.iadr none 8 153 154),ZN (.store true 8 159 158)]))))))))))) (.reg [ZA 160 (.bin .add 86 (.c (.int 1))),ZA 86 (.mov 160)]))))))) (.seq (.reg [ZA 161 (.load true 2 9),ZN (.store true 2 4 161),ZA 5 (.mov (.c (.bool true)))]) .ret)))))))))⟩
theorem p43:prepF Try.prog 43=some c43:=by kernel_rfl
theorem Weak.bzvec {h0:Hp} {env:List (Nat×D)} {hp:List O} {i:Nat} {ds:List D} (j k:Nat) (h:hpF hp i= .box ds) (hz:ds[j]?=some .zs):
    Weak h0 ⟨env,hp⟩ ⟨env,(hp++ [O.vec false k []]).set i (.box (ds.set j (.vec hp.length 0 k)))⟩:=by
  have hnew:Weak h0 ⟨env,hp⟩ ⟨env,hp++ [O.vec false k []]⟩:=fun w G hi=>by
    obtain ⟨i1,x1⟩:=inv_none (i:=hp.length) (ob:= .vec false k []) hi (.inr ⟨k,rfl⟩) (.inl (hpF_ge (Nat.le_refl _)))
    rw [<-hpF_snoc] at i1 x1
    exact ⟨G,i1,fun w0 G0 e=>e.trans x1,fun t' d' hl=>⟨d',hl,fun x r=>r.ext x1⟩⟩
  refine hnew.trans (Weak.bsub (hp:=hp++ [O.vec false k []]) (i:=i) (ds:=ds) ?_ (by simp) fun w G hi q d d' hd hd' v r=>?_)
  · rw [hpF_snoc]
    have:i≠hp.length:=fun e=>by rw [e,hpF_ge (Nat.le_refl _)] at h;cases h
    show (if i=hp.length then O.vec false k [] else hpF hp i)=_
    rw [if_neg this]
    exact h
  · by_cases e:q=j
    · subst e
      rw [hz] at hd
      cases hd
      rw [List.getElem?_set_self (List.getElem?_eq_some_iff.1 hz).1] at hd'
      cases hd'
      have hs:hpF (hp++ [O.vec false k []]) hp.length= .vec false k []:=by rw [hpF_snoc];simp
      cases r with
      | zs ha=>
        refine .vec (by rw [hs];simp) (Nat.zero_le _) (Nat.le_refl _) fun b k' ds e=>?_
        rw [hs] at e
        cases e
        exact ⟨rfl,by simp,fun _=>⟨rfl,rfl,ha⟩,fun hb=>(by cases hb)⟩
    · rw [List.getElem?_set_ne (Ne.symm e),hd] at hd'
      cases hd'
      exact r
theorem uses_take {i:Int} {ns:List Fd} {j:Nat} {d:Fd} (h:ns[j]?=some d):uses i (ns.take (j+1))=uses i (ns.take j)+cuI i d:=by
  rw [List.take_add_one,h,uses_app]
  simp [uses]
theorem uses_le (i:Int) (l:List Fd):0<=uses i l/\uses i l<=2 * l.length:=by
  have:=uses_usrs i l
  have:=usrs_le i l
  omega
abbrev H9 (x xt:List (List E)) (rt:Int) (cs:List Int) (q m:Nat) (b:Bool) (ys:List E) (t:RF):List O:=
  [.ids q,.box [.e (.sl x),.int rt],.box [.e (.sl xt)],.box [.e (.sl []),.int 0],.box (dsI cs),.box [.vec (t 6) m 8,.int rt],.vec b 8 (ys.map .e)]
theorem H9_side {env:RF->List (Nat×D)} {x xt:List (List E)} {rt:Int} {cs:List Int} {q m:Nat} {b:Bool} {ys:List E} (h1: ∀t,env t=renEnv t (env id)) (h2:ltEnv 7 (env id)=true):SideW env (H9 x xt rt cs q m b ys):=
  ⟨h1,h2,fun t=>by simp only [H9,List.map_cons,List.map_nil,O.ren,dsI_ren,rens_e,rens,D.ren,id_eq],by
    intro o ho
    simp only [List.mem_cons,List.not_mem_nil,or_false] at ho
    rcases ho with rfl | rfl | rfl | rfl | rfl | rfl | rfl
    · rfl
    · rfl
    · rfl
    · rfl
    · simp only [O.lt,dsI_lt]
    · rfl
    · simp only [O.lt,lts_e]⟩
abbrev H10 (x xt:List (List E)) (rt:Int) (cs:List Int) (q n:Nat) (ys:List E) (rw:List E) (b:Bool) (zs:List E) (t:RF):List O:=
  [.ids q,.box [.e (.sl x),.int rt],.box [.e (.sl xt)],.box [.e (.sl []),.int 0],.box (dsI cs),.box [.vec (t 6) n 8,.int rt],.vec true 8 (ys.map .e),.box (rw.map .e),.vec b 1 (zs.map .e)]
theorem H10_side {env:RF->List (Nat×D)} {x xt:List (List E)} {rt:Int} {cs:List Int} {q n:Nat} {ys rw:List E} {b:Bool} {zs:List E} (h1: ∀t,env t=renEnv t (env id)) (h2:ltEnv 9 (env id)=true):SideW env (H10 x xt rt cs q n ys rw b zs):=
  ⟨h1,h2,fun t=>by simp only [H10,List.map_cons,List.map_nil,O.ren,dsI_ren,rens_e,rens,D.ren,id_eq],by
    intro o ho
    simp only [List.mem_cons,List.not_mem_nil,or_false] at ho
    rcases ho with rfl | rfl | rfl | rfl | rfl | rfl | rfl | rfl | rfl
    · rfl
    · rfl
    · rfl
    · rfl
    · simp only [O.lt,dsI_lt]
    · rfl
    · simp only [O.lt,lts_e]
    · simp only [O.lt,lts_e]
    · simp only [O.lt,lts_e]⟩
theorem numL_app {α β:Type} (f:Nat->α->β) (s:α->Nat): ∀(q:Nat) (a b:List α),numL f s q (a++b)=numL f s q a++numL f s (q+sumN s a) b
  | q, [],b=>by simp [numL,sumN]
  | q,x::a,b=>by simp only [List.cons_append,numL,numL_app f s _ a b,sumN,Nat.add_assoc]
theorem nfr8 (out:List Nf): ∀e∈out.map nfr,e.length=8:=fun e h=>by
  obtain ⟨p,_,rfl⟩:=List.mem_map.1 h
  rfl
theorem drop_row {k:Nat} (hk0:0<k) {xs:List (List E)} (h: ∀e∈xs,e.length=k) {i:Nat} (hi:i<xs.length):(xs.flatten.map D.e).drop (i * k)=xs[i].map D.e++(xs.flatten.map D.e).drop (i * k+k):=by
  have h1:=buf_set hk0 h hi (r:=xs[i]) (h _ (List.getElem_mem hi))
  rw [List.set_getElem_self] at h1
  have hl:(xs.flatten.map D.e).length=xs.length * k:=by rw [List.length_map,flatten_len h]
  have hle:i * k+k<=xs.length * k:=by rw [<-Nat.succ_mul];exact Nat.mul_le_mul_right k hi
  have h2:=congrArg (List.drop (i * k)) h1
  rw [List.append_assoc,List.drop_append_of_le_length (by rw [List.length_take];omega),List.drop_eq_nil_of_le (by rw [List.length_take];omega),List.nil_append] at h2
  exact h2.symm
theorem put_kind {out:List Nf} {i:Nat} (hi:i<out.length) {k:Int} {dy ds1:List D} {b:Nat} (hdy:dy=((out.map nfr).flatten).map D.e) (hb:b=i * 8) (h:ds1=dy.take b++ [.int k]++dy.drop (b+1)):
    ds1=(((out.set i {out.getD i default with K:=k}).map nfr).flatten).map D.e:=by
  have hi2:i<(out.map nfr).length:=by rw [List.length_map];exact hi
  have hg:out.getD i default=out[i]:=by simp [List.getD,hi]
  have h2:=drop_row (by decide) (nfr8 out) hi2
  rw [<-hdy,List.getElem_map] at h2
  rw [List.map_set,<-buf_set (k:=8) (by decide) (nfr8 out) hi2 (r:=nfr {out.getD i default with K:=k}) rfl,<-hdy,h,hb,hg]
  have h3:dy.drop (i * 8+1)=(nfr out[i]).tail.map D.e++dy.drop (i * 8+8):=by
    rw [<-List.drop_drop,h2]
    rfl
  rw [h3,List.append_assoc,List.append_assoc]
  rfl
theorem put_row {out:List Nf} {j:Nat} (hj:j<out.length) {p:Nf} {v:D} {L:Int} {e5:E} {ds1 ds2:List D} {b:Nat} (h1:ds1=((out.map nfr).flatten).map D.e) (hb:b=j * 8) (h:ds2=ds1.take b++ [.int 4,.int 0,.int 0,.int 0,.zs,v,.int L,.int 0]++ds1.drop (b+8))
    (hp:nfr p= [E.int 4,E.int 0,E.int 0,E.int 0,.fs 0 [],e5,E.int L,E.int 0]):
    ds2[b+4]?=some .zs/\(ds2.set (b+4) (.e (.fs 0 [])))[b+5]?=some v/\(ds2.set (b+4) (.e (.fs 0 []))).set (b+5) (.e e5)=(((out.set j p).map nfr).flatten).map D.e:=by
  have hj2:j<(out.map nfr).length:=by rw [List.length_map];exact hj
  have hl:ds1.length=out.length * 8:=by rw [h1,List.length_map,flatten_len (nfr8 out),List.length_map]
  obtain ⟨A,hA⟩: ∃A,A=ds1.take b:=⟨_,rfl⟩
  have hAl:A.length=b:=by rw [hA,List.length_take];omega
  obtain ⟨C,hC⟩: ∃C,C=ds1.drop (b+8):=⟨_,rfl⟩
  have e2:ds2=A++([.int 4,.int 0,.int 0,.int 0,.zs,v,.int L,.int 0]++C):=by rw [h,hA,hC,List.append_assoc]
  have e3:ds2.set (b+4) (.e (.fs 0 []))=A++([.int 4,.int 0,.int 0,.int 0,.e (.fs 0 []),v,.int L,.int 0]++C):=by
    rw [e2,List.set_append_right _ _ (by omega),show b+4-A.length=4 by omega]
    rfl
  refine ⟨?_,?_,?_⟩
  · rw [e2,List.getElem?_append_right (by omega),show b+4-A.length=4 by omega]
    rfl
  · rw [e3,List.getElem?_append_right (by omega),show b+5-A.length=5 by omega]
    rfl
  · rw [e3,List.set_append_right _ _ (by omega),show b+5-A.length=5 by omega,List.map_set,<-buf_set (k:=8) (by decide) (nfr8 out) hj2 (r:=nfr p) rfl,<-h1,hp,<-hb,<-hA,<-hC,List.append_assoc]
    rfl
theorem mapNf_row (q:Nat) (d:Fd) (w a wm a2:Int) (hm:wm=w-1) (ha:a2=2-a):nfr (mapNf q d w a)= [E.int 4,E.int 0,E.int 0,E.int 0,.fs 0 [],.fs (q+wm.toNat+1) ((numL nX one1 q (colsE wm)).map xrow++ [[E.fs (q+wm.toNat) [[E.int 1,E.int a2]]]]),E.int d.L,E.int 0]:=by
  have h1:eXs (nXs q (mapX w a))= .fs (q+wm.toNat+1) ((numL nX one1 q (colsE wm)).map xrow++ [[E.fs (q+wm.toNat) [[E.int 1,E.int a2]]]]):=by
    rw [mapX,<-hm,<-ha,nXs,eXs,numL_app,List.map_append,List.length_append,sum1,colsE_len]
    rfl
  show [E.int 4,E.int 0,E.int 0,E.int 0,eX (0, []),eXs (nXs q (mapX w a)),E.int d.L,E.int 0]=_
  rw [h1]
  rfl
def UsOk (cs:List Int) (rt:Int) (l:List Fd) (n:Nat):Prop:=cs.length=n/\ ∀k:Nat,k<n->cs[k]?=some ((if rt=k then 1 else 0)+uses k l)
theorem UsOk.step {cs:List Int} {rt:Int} {ns:List Fd} {n i:Nat} {d:Fd} (h:UsOk cs rt (ns.take i) n) (hd:ns[i]?=some d) (hL:lef d.K=true->0<=d.L/\d.L<n) (hR:rig d.K=true->0<=d.R/\d.R<n):
    UsOk (let c1:=if lef d.K=true then cs.set d.L.toNat (cs.getD d.L.toNat 0+1) else cs
      if rig d.K=true then c1.set d.R.toNat (c1.getD d.R.toNat 0+1) else c1) rt (ns.take (i+1)) n:=by
  obtain ⟨h1,h2⟩:=h
  simp only
  obtain ⟨c1,hc1⟩: ∃c,c=if lef d.K=true then cs.set d.L.toNat (cs.getD d.L.toNat 0+1) else cs:=⟨_,rfl⟩
  rw [<-hc1]
  have g1:c1.length=n/\ ∀k:Nat,k<n->c1[k]?=some ((if rt=k then 1 else 0)+uses k (ns.take i)+if lef d.K=true/\d.L=k then 1 else 0):=by
    rw [hc1]
    by_cases q:lef d.K=true
    · rw [if_pos q]
      obtain ⟨l1,l2⟩:=hL q
      refine ⟨by rw [List.length_set];exact h1,fun k hk=>?_⟩
      by_cases e:k=d.L.toNat
      · subst e
        rw [List.getElem?_set_self (by omega),List.getD,h2 _ hk,if_pos (show lef d.K=true/\d.L=(d.L.toNat:Nat) from ⟨q,by omega⟩)]
        rfl
      · rw [List.getElem?_set_ne (Ne.symm e),h2 k hk,if_neg (show¬(lef d.K=true/\d.L=k) from fun p=>e (by omega))]
        simp
    · rw [if_neg q]
      refine ⟨h1,fun k hk=>?_⟩
      rw [h2 k hk,if_neg (show¬(lef d.K=true/\d.L=k) from fun p=>q p.1)]
      simp
  have fin: ∀k:Nat,(if rt=k then (1:Int) else 0)+uses k (ns.take (i+1))=(if rt=k then 1 else 0)+uses k (ns.take i)+(if lef d.K=true/\d.L=k then 1 else 0)+if rig d.K=true/\d.R=k then 1 else 0:=fun k=>by
    rw [uses_take hd,cuI]
    omega
  by_cases q:rig d.K=true
  · rw [if_pos q]
    obtain ⟨l1,l2⟩:=hR q
    refine ⟨by rw [List.length_set];exact g1.1,fun k hk=>?_⟩
    rw [fin]
    by_cases e:k=d.R.toNat
    · subst e
      rw [List.getElem?_set_self (by omega),List.getD,g1.2 _ hk,if_pos (show rig d.K=true/\d.R=(d.R.toNat:Nat) from ⟨q,by omega⟩)]
      rfl
    · rw [List.getElem?_set_ne (Ne.symm e),g1.2 k hk,if_neg (show¬(rig d.K=true/\d.R=k) from fun p=>e (by omega))]
      simp
  · rw [if_neg q]
    refine ⟨g1.1,fun k hk=>?_⟩
    rw [fin,g1.2 k hk,if_neg (show¬(rig d.K=true/\d.R=k) from fun p=>q p.1)]
    simp
end Go.Proofs.Ytfplalbognalkaa.Ab
/- The program's simplified plans, walked. -/
namespace Go.Proofs.Ytfplalbognalkaa.Ab
open Go
def runN (ask:Fd->Int) (w:Int->Int):List Nf×Nat->Nat->List Fd->List Nf×Nat
  | s,_, []=>s
  | s,j,d::r=>runN ask w (stepN ask w s.1 s.2 j d) (j+1) r
structure Fok2 (ns:List Fd) (ws:List Int) (rt:Int):Prop where
  a:Fok ns ws
  R: ∀(j:Nat) d,ns[j]?=some d->rig d.K=true->0<=d.R/\d.R<ns.length
  rt:0<=rt/\rt<ns.length
  ex: ∀d∈ns,d.K=3-> ∃c,exOk d.Ex c=true
theorem tup_side {az:List D} {X:E} {rt:Int} {b:Bool} {q0 q1:Nat} (h1: ∀t,az=rens t az) (h2:lts 1 az=true):Side (fun _=>az) (fun _=> [.ids q0]) (fun _=> .tup [.agg [.e X,.int rt],.bool b]) (fun _=> [.ids q1]):=
  ⟨h1,h2,fun t=>rfl,by intro o ho;rw [List.mem_singleton] at ho;subst ho;rfl,fun t=>rfl,fun t=>rfl,Nat.le_refl _⟩
theorem exAskI_bnd (ex:List (Int×Int)) (m:Int):0<=exAskI ex m/\exAskI ex m<=2:=by
  unfold exAskI
  split
  · split <;>omega
  · split <;>omega
  · omega
set_option maxRecDepth 100000 in
set_option maxHeartbeats 16000000 in
theorem n223t (q0:Nat) (ns:List Fd) (rt:Int) (x:List (List E)) (hx:x=ns.map fdr) (ts:List Tb) (xt:List (List E)) (hxt:xt=ts.map tbr) (hxl:x.length<=1048576) (hlen: ∀d∈ns,d.Ex.length<=1048576/\d.Exs.length<=1048576/\ ∀e∈d.Exs,e.length<=1048576)
    (ws:List Int) (xw:List (List E)) (hxw:xw=ws.map ir) (h239:Plain Try.prog 77 [.agg [.e (.sl x),.int rt],.agg [.e (.sl xt)]] (.tup [.e (.sl xw),.bool true])) (fok:Fok2 ns ws rt)
    (nfs:List Nf) (qf:Nat) (hfin:(nfs,qf)=runN (askI ns (wOf ws) rt) (wOf ws) (numL nF sF q0 ns,q0+sumN sF ns) 0 ns):
    Proc Try.prog 43 (fun _=> [.agg [.e (.sl x),.int rt],.agg [.e (.sl xt)]]) (fun _=> [.ids q0]) (fun _=> .tup [.agg [.e (eFs qf nfs),.int rt],.bool true]) (fun _=> [.ids (qf+1)]):=procOf mixed p43 (tup_side (fun t=>rfl) rfl) fun A P hA hP=>(by
  have hel:x.length=ns.length:=by rw [hx];simp
  obtain ⟨n,hn⟩: ∃n,n=x.length:=⟨_,rfl⟩
  obtain ⟨ze,hze⟩: ∃z:Int,z=x.length:=⟨_,rfl⟩
  have hzn:ze.toNat=n:=by omega
  obtain ⟨XF,hXF⟩: ∃X,X=eFs qf nfs:=⟨_,rfl⟩
  obtain ⟨qe,hqe⟩: ∃q,q=qf+1:=⟨_,rfl⟩
  rw [<-hXF,<-hqe]
  have hrt:=fok.rt
  have ld0: ∀ {ds:List D} {b:Nat} {c:D},ds=(List.replicate ze.toNat [D.int 0]).flatten->b=0+rt.toNat * 1->c=ds.getD b default->c= .int 0:=fun {ds b c} q1 q2 q3=>by
    rw [rep_dsI] at q1
    exact dsI_get q1 (by rw [hzn,show b=rt.toNat by omega,List.getElem?_replicate,if_pos (by omega)]) q3
  cbv
  repeat' first | with_reducible rfl | with_reducible refine And.intro ?_ ?_ | ((with_reducible intro hcc);first | (cases hcc;done) | skip) | ((with_reducible first | show goC _ _ _ _ _ _ _ _ | show goOps _ _ _ _ _ | show goD _ _ _ _ _ _);cbv) | ((with_reducible show okWr _ _=_);rfl) | ((with_reducible first | refine callK_f hA hP h239 ?_ ?_ ?_);exact rfl;exact rfl;cbv) | ((with_reducible refine hA.len x _ _ _ _ fun z hz hb=>?_);(have e6:=hze.trans hz.symm);subst e6;cbv) | ((with_reducible refine hA.rep _ _ _ fun ds0 m hds0 hm=>?_);(have e7:n=m:=(by rw [hm,hzn]));subst e7;cbv) | ((with_reducible refine hA.ld1 _ _ _ ⟨?_,fun c hc=>?_⟩);rotate_left;(have e9:=ld0 hds0 (by assumption) hc);subst e9;cbv) | ((with_reducible first | refine hA.fin_pl _ _ _ ?_ | refine hA.len _ _ _ _ _ fun z hz hb=>?_ | refine hA.off _ _ _ _ fun b hb=>?_ | refine hA.plus _ _ _ fun b hb=>?_ | refine hA.rep _ _ _ fun ds m hds hm=>?_ | refine hA.alt _ _ (Or.inl ?_) | refine hA.gb0 true _ ?_ | refine hA.gb0 false _ ?_ | refine hA.gb _ _ fun vb hvb=>?_);cbv) | ((with_reducible first | refine hA.app _ _ _ _ _ ⟨?_,fun zs m hzs hm=>?_⟩ | refine hA.app0 _ _ _ ⟨?_,fun m hm=>?_⟩ | refine hA.st _ _ _ _ _ ⟨?_,fun ds hds=>?_⟩ | refine hA.appv _ _ _ _ _ _ ⟨?_,fun bb m ds hbb hm hds=>?_⟩ | refine hA.vcut _ _ _ _ ⟨?_,fun cs hcs=>?_⟩ | refine hA.appw _ _ _ _ _ _ _ ⟨?_,fun bb m ds hbb hm hds=>?_⟩ | refine hA.sapp _ _ _ ⟨?_,fun sl hsl=>?_⟩);rotate_left;cbv) | (simp only [hA.lits];cbv)
  all_goals try simp only [hA.ar,inR,n_cast,Int.ofNat_eq_natCast,Option.getD_some,Option.getD_none] at *
  all_goals try (first | omega | (have:=hb trivial trivial trivial;omega))
  rotate_left
  · rw [hds0,rep_dsI,dsI_len,List.length_replicate];omega
  · rw [hds0,rep_dsI,dsI_len,List.length_replicate];omega
  have g1:ds=dsI ((List.replicate n 0).set rt.toNat 1):=dsI_set (ds:=ds0) (by rw [hds0,rep_dsI,hzn]) (by rw [List.length_replicate];omega) (by rw [hds,show b=rt.toNat by omega];rfl)
  obtain ⟨cs0,hcs0⟩: ∃c,c=(List.replicate n (0:Int)).set rt.toNat 1:=⟨_,rfl⟩
  rw [<-hcs0] at g1
  subst g1
  have us0:UsOk cs0 rt (ns.take 0) n:=by
    refine ⟨by rw [hcs0,List.length_set,List.length_replicate],fun k hk=>?_⟩
    rw [hcs0,List.take_zero,uses]
    by_cases e:rt.toNat=k
    · rw [<-e,List.getElem?_set_self (by rw [List.length_replicate];omega),if_pos (by omega)];rfl
    · rw [List.getElem?_set_ne e,List.getElem?_replicate,if_pos hk,if_neg (by omega)];rfl
  clear hcs0 hds hds0
  obtain ⟨T0,hT0⟩: ∃T,T=(numL nF sF q0 ns).map nfr:=⟨_,rfl⟩
  have hT0l:T0.length=ns.length:=by rw [hT0,List.length_map,numL_len]
  have hT0k: ∀e∈T0,e.length=8:=by
    rw [hT0];intro e h
    obtain ⟨p,_,rfl⟩:=List.mem_map.1 h
    rfl
  refine hA.loopI (fun nn s=> ∃(i:Int) (qi:Nat) (xs:List (List E)) (ys:List E) (b:Bool) (m:Nat) (cs:List Int),0<=i/\nn+i=x.length/\qi=q0+sumN sF (ns.take i.toNat)/\xs=T0.take i.toNat/\ys=xs.flatten/\m=xs.length/\b=decide (0<m)/\UsOk cs rt (ns.take i.toNat) n/\
      s=⟨[(44,.int i),(43,.int ze),(42,.e (.sl x)),(9,.ref 5 0),(8,.bs 4 0 n 1),(6,.e (.sl xw)),(4,.ref 3 0),(2,.ref 1 0)],H9 x xt rt cs qi m b ys id⟩) x.length _
    ((Weak.bzvec (i:=5) 0 8 rfl rfl).trans (Weak.keep (env':= [(44,.int 0),(43,.int ze),(42,.e (.sl x)),(9,.ref 5 0),(8,.bs 4 0 n 1),(6,.e (.sl xw)),(4,.ref 3 0),(2,.ref 1 0)]) ⟨rfl,rfl,rfl,rfl,rfl,rfl,rfl,rfl,trivial⟩))
    ⟨0,q0, [], [],false,0,cs0,by omega,by omega,by simp [sumN],rfl,rfl,rfl,rfl,us0,rfl⟩ ?_
  rintro nn s K1 ⟨i,qi,xs,ys,b,m,cs,i0,i1,hq,hxs,hys,hm,hbb,hus,rfl⟩ hK
  have hxl':xs.length=i.toNat:=by rw [hxs,List.length_take];omega
  have hxk: ∀e∈xs,e.length=8:=fun e h=>hT0k e (by rw [hxs] at h;exact List.mem_of_mem_take h)
  have hyl:ys.length=m * 8:=by rw [hys,flatten_len hxk,hm]
  obtain ⟨dy,hdy⟩: ∃d,d=ys.map D.e:=⟨_,rfl⟩
  have hdl:dy.length=m * 8:=by rw [hdy,List.length_map,hyl]
  obtain ⟨dc,hdc⟩: ∃d,d=dsI cs:=⟨_,rfl⟩
  have hcl:dc.length=n:=by rw [hdc,dsI_len,hus.1]
  have hH:H9 x xt rt cs qi m b ys id= [.ids qi,.box [.e (.sl x),.int rt],.box [.e (.sl xt)],.box [.e (.sl []),.int 0],.box dc,.box [.vec 6 m 8,.int rt],.vec b 8 dy]:=by rw [hdc,hdy];rfl
  rw [hH]
  by_cases hin:(0:Int)<=i/\i<x.length
  case pos=>
    have e1:A.lt i ze=true:=by rw [hA.lt];exact decide_eq_true (by omega)
    obtain ⟨K,T,M,W,Ex,Exs,L,R,xe,ye,hd,hxe,hye,hrow0⟩:=fd_at hx hin
    have hlen':=hlen _ (List.mem_of_getElem? hd)
    have hLd:=fok.a.L _ _ hd
    have hRd:=fok.R _ _ hd
    simp only at hlen' hLd hRd
    have h257:=ok96 K
    have h258:=ok97 K
    obtain ⟨qj,hqj⟩: ∃q,q=qi+1:=⟨_,rfl⟩
    obtain ⟨qk,hqk⟩: ∃q,q=qj+Exs.length+1:=⟨_,rfl⟩
    obtain ⟨X1,hX1⟩: ∃X,X=eX (qi,Ex):=⟨_,rfl⟩
    obtain ⟨Y1,hY1⟩: ∃X,X=eXs (nXs qj Exs):=⟨_,rfl⟩
    have h259:Proc Try.prog 98 (fun _=> [.e (.sl xe)]) (fun _=> [.ids qi]) (fun _=> .e X1) (fun _=> [.ids qj]):=by
      rw [hX1,hqj]
      exact n259 qi Ex xe hxe (by rw [hxe,List.length_map];exact hlen'.1)
    have h260:Proc Try.prog 99 (fun _=> [.e (.sl ye)]) (fun _=> [.ids qj]) (fun _=> .e Y1) (fun _=> [.ids qk]):=by
      rw [hY1,hqk]
      exact n260 qj Exs ye hye (by rw [hye,List.length_map];exact hlen'.2.1) hlen'.2.2
    have hrow:T0.take (i+1).toNat=xs++ [[E.int K,E.int T,E.int M,E.int W,X1,Y1,E.int L,E.int R]]:=by
      rw [show (i+1).toNat=i.toNat+1 by omega,List.take_add_one,<-hxs,hT0,List.getElem?_map,numL_get,hd,<-hq,hX1,hY1,hqj]
      rfl
    have hqn:qk=q0+sumN sF (ns.take (i+1).toNat):=by
      rw [show (i+1).toNat=i.toNat+1 by omega,sumN_take hd,hqk,hqj,hq,sF]
      simp only
      omega
    have hst:=hus.step hd (fun h=>(show 0<=L/\L<n from ⟨hLd.1,by omega⟩)) (fun h=>(show 0<=R/\R<n from ⟨(hRd h).1,by have:=(hRd h).2;omega⟩))
    simp only at hst
    obtain ⟨bL,hbL⟩: ∃b,b=lef K:=⟨_,rfl⟩
    obtain ⟨bR,hbR⟩: ∃b,b=rig K:=⟨_,rfl⟩
    have hLR:bR=true->bL=true:=by
      rw [hbL,hbR,lef,rig]
      simp
      omega
    rw [<-hbL] at h257 hst
    rw [<-hbR] at h258 hst hRd
    have uB: ∀k:Int,0<=k->k<n-> ∃u,cs[k.toNat]?=some u/\cs.getD k.toNat 0=u/\0<=u/\u<=3000000:=fun k h0 h1=>by
      have h2:=hus.2 k.toNat (by omega)
      refine ⟨_,h2,by rw [List.getD,h2];rfl,?_⟩
      have:=uses_le (k.toNat:Int) (ns.take i.toNat)
      rw [List.length_take] at this
      split <;>omega
    have go: ∀(c2:List Int) (b':Bool) (m':Nat) (ds' dc':List D) (j:Nat) (env:List (Nat×D)) (hp:List O),UsOk c2 rt (ns.take (i.toNat+1)) n->dc'=dsI c2->b'=(b || decide (0<([[E.int K,E.int T,E.int M,E.int W,X1,Y1,E.int L,E.int R]]:List (List E)).length))->m'=m+([[E.int K,E.int T,E.int M,E.int W,X1,Y1,E.int L,E.int R]]:List (List E)).length->ds'=dy.take (m * 8)++([[E.int K,E.int T,E.int M,E.int W,X1,Y1,E.int L,E.int R]]:List (List E)).flatten.map .e->
        hpF hp 0= .ids qk->hpF hp 1= .box [.e (.sl x),.int rt]->hpF hp 2= .box [.e (.sl xt)]->hpF hp 3= .box [.e (.sl []),.int 0]->hpF hp 4= .box dc'->hpF hp 5= .box [.vec j m' 8,.int rt]->hpF hp j= .vec b' 8 ds'->(ndB [0,1,2,3,4,5,j]&&firstB 1 [0,1,2,3,4,5,j] 0)=true->
        subW [(44,.int (i+1)),(43,.int ze),(42,.e (.sl x)),(9,.ref 5 0),(8,.bs 4 0 n 1),(6,.e (.sl xw)),(4,.ref 3 0),(2,.ref 1 0)] env->K1 ⟨env,hp⟩:=fun c2 b' m' ds' dc' j env hp g1 g2 g3 g4 g5 f0 f1 f2 f3 f4 f5 f6 g6 g7=>by
      have hds:ds'=(ys++ [E.int K,E.int T,E.int M,E.int W,X1,Y1,E.int L,E.int R]).map .e:=by
        rw [g5,List.take_of_length_le (by omega),hdy]
        simp
      refine hK _ (nn-1) _ (by omega) (Weak.ren (l0:= [.ids q0]) [0,1,2,3,4,5,j] (fun t=> [(44,.int (i+1)),(43,.int ze),(42,.e (.sl x)),(9,.ref (t 5) 0),(8,.bs (t 4) 0 n 1),(6,.e (.sl xw)),(4,.ref (t 3) 0),(2,.ref (t 1) 0)]) (H9 x xt rt c2 qk m' b' (ys++ [E.int K,E.int T,E.int M,E.int W,X1,Y1,E.int L,E.int R])) g6 g7 ⟨f0,f1,f2,f3,by rw [f4,g2],f5,by rw [f6,hds],trivial⟩ (H9_side (fun t=>rfl) rfl))
        ⟨i+1,qk,xs++ [[E.int K,E.int T,E.int M,E.int W,X1,Y1,E.int L,E.int R]],_,b',m',c2,by omega,by omega,hqn,hrow.symm,by rw [hys] <;>simp,by rw [g4,hm] <;>simp,by rw [g3,g4] <;>simp,by rw [show (i+1).toNat=i.toNat+1 by omega];exact g1,rfl⟩
    have hset: ∀ {c:List Int} {ds ds':List D} {b:Nat} {a k:Int},ds=dsI c->c.length=n->0<=k->k<n->ds'=ds.take b++ [.int a]++ds.drop (b+1)->b=0+k.toNat * 1->ds'=dsI (c.set k.toNat a)/\ds'.length=n:=fun {c ds ds' b a k} h0 hl ha hb h1 h2=>by
      have e:=dsI_set (ds':=ds') (r:=a) (off:=k.toNat) h0 (by omega) (by rw [h1,show b=k.toNat by omega])
      exact ⟨e,by rw [e,dsI_len,List.length_set,hl]⟩
    have hcl1:=hus.1
    clear hK hrow hqn hX1 hY1 hqk hqj hxe hye hbL hbR hus hT0 hxs hys hlen hfin hH
    cases bL
    · have hbR:bR=false:=Bool.eq_false_iff.2 fun h=>Bool.noConfusion (hLR h)
      subst hbR
      simp only [Bool.false_eq_true,if_false] at hst
      clear uB hset
      cbv
      repeat' first | with_reducible rfl | (simp only [e1];cbv) | with_reducible refine And.intro ?_ ?_ | ((with_reducible intro hcc);first | (cases hcc;done) | skip) | ((with_reducible first | show goC _ _ _ _ _ _ _ _ | show goOps _ _ _ _ _ | show goD _ _ _ _ _ _);cbv) | ((with_reducible show okWr _ _=_);rfl) | ((with_reducible first | refine callK_f hA hP h257 ?_ ?_ ?_ | refine callK_f hA hP h258 ?_ ?_ ?_);exact rfl;exact rfl;cbv) | ((with_reducible show A.call _ _ _ _ _ 98 _ _ _);have hc:=h259;refine callK_pr hA hP [0] (by rfl) (by exact ⟨rfl,trivial⟩) (Wks.refl _) ?_ (fun _ _=>hc) hc.side;cbv) | ((with_reducible show A.call _ _ _ _ _ 99 _ _ _);have hc:=h260;refine callK_pr hA hP [0] (by rfl) (by exact ⟨rfl,trivial⟩) (Wks.refl _) ?_ (fun _ _=>hc) hc.side;cbv) | ((with_reducible refine hA.row x i _ ⟨hin,fun row hrow=>?_⟩);rw [hrow0] at hrow;subst hrow;cbv) | ((with_reducible first | refine hA.fin_pl _ _ _ ?_ | refine hA.len _ _ _ _ _ fun z hz hb=>?_ | refine hA.off _ _ _ _ fun b hb=>?_ | refine hA.plus _ _ _ fun b hb=>?_ | refine hA.rep _ _ _ fun ds m hds hm=>?_ | refine hA.alt _ _ (Or.inl ?_) | refine hA.gb0 true _ ?_ | refine hA.gb0 false _ ?_ | refine hA.gb _ _ fun vb hvb=>?_);cbv) | ((with_reducible first | refine hA.app _ _ _ _ _ ⟨?_,fun zs m hzs hm=>?_⟩ | refine hA.app0 _ _ _ ⟨?_,fun m hm=>?_⟩ | refine hA.st _ _ _ _ _ ⟨?_,fun ds hds=>?_⟩ | refine hA.appv _ _ _ _ _ _ ⟨?_,fun bb m ds hbb hm hds=>?_⟩ | refine hA.vcut _ _ _ _ ⟨?_,fun cs hcs=>?_⟩ | refine hA.appw _ _ _ _ _ _ _ ⟨?_,fun bb m ds hbb hm hds=>?_⟩ | refine hA.sapp _ _ _ ⟨?_,fun sl hsl=>?_⟩);rotate_left;cbv) | (simp only [hA.lits];cbv)
      all_goals try simp only [hA.ar,inR,n_cast,Int.ofNat_eq_natCast,Option.getD_some,Option.getD_none] at *
      all_goals first
        | omega
        | exact go cs _ _ _ _ _ _ _ hst hdc (by assumption) (by assumption) (by assumption) rfl rfl rfl rfl rfl rfl rfl rfl ⟨.inl rfl,.inl rfl,.inl rfl,.inl rfl,.inl rfl,.inl rfl,.inl rfl,.inl rfl,trivial⟩
        | exact ⟨rfl,trivial⟩
        | (simp only [List.length_cons,List.length_nil];omega)
        | (trace_state;fail)
    · have kl:0<=L/\L<n:=⟨hLd.1,by omega⟩
      obtain ⟨u1,hu1,hv1,hb1⟩:=uB L kl.1 kl.2
      obtain ⟨v1,hv⟩: ∃v,v=A.add u1 1:=⟨_,rfl⟩
      have hvv:u1+1=v1:=by rw [hv,hA.add]
      have ld1: ∀ {b:Nat} {c:D},b=0+L.toNat * 1->c=dc.getD b default->c= .int u1:=fun {b c} a q=>dsI_get hdc (by rw [show b=L.toNat by omega];exact hu1) q
      simp only [if_true] at hst
      rw [hv1,hvv] at hst
      cases bR
      · simp only [Bool.false_eq_true,if_false] at hst
        clear uB
        cbv
        repeat' first | with_reducible rfl | (simp only [e1,<-hv];cbv) | with_reducible refine And.intro ?_ ?_ | ((with_reducible intro hcc);first | (cases hcc;done) | skip) | ((with_reducible first | show goC _ _ _ _ _ _ _ _ | show goOps _ _ _ _ _ | show goD _ _ _ _ _ _);cbv) | ((with_reducible show okWr _ _=_);rfl) | ((with_reducible first | refine callK_f hA hP h257 ?_ ?_ ?_ | refine callK_f hA hP h258 ?_ ?_ ?_);exact rfl;exact rfl;cbv) | ((with_reducible show A.call _ _ _ _ _ 98 _ _ _);have hc:=h259;refine callK_pr hA hP [0] (by rfl) (by exact ⟨rfl,trivial⟩) (Wks.refl _) ?_ (fun _ _=>hc) hc.side;cbv) | ((with_reducible show A.call _ _ _ _ _ 99 _ _ _);have hc:=h260;refine callK_pr hA hP [0] (by rfl) (by exact ⟨rfl,trivial⟩) (Wks.refl _) ?_ (fun _ _=>hc) hc.side;cbv) | ((with_reducible refine hA.row x i _ ⟨hin,fun row hrow=>?_⟩);rw [hrow0] at hrow;subst hrow;cbv) | ((with_reducible refine hA.ld1 _ _ _ ⟨?_,fun c hc=>?_⟩);rotate_left;(first | ((have e9:=ld1 (by assumption) hc);subst e9));cbv) | ((with_reducible refine hA.st dc _ _ _ _ ⟨?_,fun ds2 hds2=>?_⟩);rotate_left;(obtain ⟨g2,l2⟩:=hset hdc hcl1 kl.1 kl.2 hds2 (by assumption));cbv) | ((with_reducible first | refine hA.fin_pl _ _ _ ?_ | refine hA.len _ _ _ _ _ fun z hz hb=>?_ | refine hA.off _ _ _ _ fun b hb=>?_ | refine hA.plus _ _ _ fun b hb=>?_ | refine hA.rep _ _ _ fun ds m hds hm=>?_ | refine hA.alt _ _ (Or.inl ?_) | refine hA.gb0 true _ ?_ | refine hA.gb0 false _ ?_ | refine hA.gb _ _ fun vb hvb=>?_);cbv) | ((with_reducible first | refine hA.app _ _ _ _ _ ⟨?_,fun zs m hzs hm=>?_⟩ | refine hA.app0 _ _ _ ⟨?_,fun m hm=>?_⟩ | refine hA.st _ _ _ _ _ ⟨?_,fun ds hds=>?_⟩ | refine hA.appv _ _ _ _ _ _ ⟨?_,fun bb m ds hbb hm hds=>?_⟩ | refine hA.vcut _ _ _ _ ⟨?_,fun cs hcs=>?_⟩ | refine hA.appw _ _ _ _ _ _ _ ⟨?_,fun bb m ds hbb hm hds=>?_⟩ | refine hA.sapp _ _ _ ⟨?_,fun sl hsl=>?_⟩);rotate_left;cbv) | (simp only [hA.lits];cbv)
        all_goals try simp only [hA.ar,inR,n_cast,Int.ofNat_eq_natCast,Option.getD_some,Option.getD_none] at *
        all_goals first
          | omega
          | exact go _ _ _ _ _ _ _ _ hst g2 (by assumption) (by assumption) (by assumption) rfl rfl rfl rfl rfl rfl rfl rfl ⟨.inl rfl,.inl rfl,.inl rfl,.inl rfl,.inl rfl,.inl rfl,.inl rfl,.inl rfl,trivial⟩
          | exact ⟨rfl,trivial⟩
          | (simp only [List.length_cons,List.length_nil];omega)
          | (trace_state;fail)
      · simp only [if_true] at hst
        have kr:0<=R/\R<n:=by have:=hRd rfl;omega
        obtain ⟨u2,hu2,hw2,hb2⟩: ∃u,(cs.set L.toNat v1)[R.toNat]?=some u/\(cs.set L.toNat v1).getD R.toNat 0=u/\0<=u/\u<=3000001:=by
          by_cases e:L.toNat=R.toNat
          · rw [e,List.getD,List.getElem?_set_self (by omega)]
            exact ⟨_,rfl,rfl,by omega,by omega⟩
          · rw [List.getD,List.getElem?_set_ne e]
            obtain ⟨u,h1,h2,h3⟩:=uB R kr.1 kr.2
            exact ⟨u,h1,by rw [h1];rfl,by omega,by omega⟩
        obtain ⟨v2,hv2⟩: ∃v,v=A.add u2 1:=⟨_,rfl⟩
        have hvv2:u2+1=v2:=by rw [hv2,hA.add]
        rw [hw2,hvv2] at hst
        have ld2: ∀ {ds:List D} {b:Nat} {c:D},ds=dsI (cs.set L.toNat v1)->b=0+R.toNat * 1->c=ds.getD b default->c= .int u2:=fun {ds b c} g a q=>dsI_get g (by rw [show b=R.toNat by omega];exact hu2) q
        have hcl2:(cs.set L.toNat v1).length=n:=by rw [List.length_set,hcl1]
        clear uB
        cbv
        repeat' first | with_reducible rfl | (simp only [e1,<-hv,<-hv2];cbv) | with_reducible refine And.intro ?_ ?_ | ((with_reducible intro hcc);first | (cases hcc;done) | skip) | ((with_reducible first | show goC _ _ _ _ _ _ _ _ | show goOps _ _ _ _ _ | show goD _ _ _ _ _ _);cbv) | ((with_reducible show okWr _ _=_);rfl) | ((with_reducible first | refine callK_f hA hP h257 ?_ ?_ ?_ | refine callK_f hA hP h258 ?_ ?_ ?_);exact rfl;exact rfl;cbv) | ((with_reducible show A.call _ _ _ _ _ 98 _ _ _);have hc:=h259;refine callK_pr hA hP [0] (by rfl) (by exact ⟨rfl,trivial⟩) (Wks.refl _) ?_ (fun _ _=>hc) hc.side;cbv) | ((with_reducible show A.call _ _ _ _ _ 99 _ _ _);have hc:=h260;refine callK_pr hA hP [0] (by rfl) (by exact ⟨rfl,trivial⟩) (Wks.refl _) ?_ (fun _ _=>hc) hc.side;cbv) | ((with_reducible refine hA.row x i _ ⟨hin,fun row hrow=>?_⟩);rw [hrow0] at hrow;subst hrow;cbv) | ((with_reducible refine hA.ld1 dc _ _ ⟨?_,fun c hc=>?_⟩);rotate_left;(first | ((have e9:=ld1 (by assumption) hc);subst e9));cbv) | ((with_reducible refine hA.ld1 _ _ _ ⟨?_,fun c hc=>?_⟩);rotate_left;(first | ((have e9:=ld2 g2 (by assumption) hc);subst e9));cbv) | ((with_reducible refine hA.st dc _ _ _ _ ⟨?_,fun ds2 hds2=>?_⟩);rotate_left;(obtain ⟨g2,l2⟩:=hset hdc hcl1 kl.1 kl.2 hds2 (by assumption));cbv) | ((with_reducible refine hA.st ds2 _ _ _ _ ⟨?_,fun ds3 hds3=>?_⟩);rotate_left;(obtain ⟨g3,l3⟩:=hset g2 hcl2 kr.1 kr.2 hds3 (by assumption));cbv) | ((with_reducible first | refine hA.fin_pl _ _ _ ?_ | refine hA.len _ _ _ _ _ fun z hz hb=>?_ | refine hA.off _ _ _ _ fun b hb=>?_ | refine hA.plus _ _ _ fun b hb=>?_ | refine hA.rep _ _ _ fun ds m hds hm=>?_ | refine hA.alt _ _ (Or.inl ?_) | refine hA.gb0 true _ ?_ | refine hA.gb0 false _ ?_ | refine hA.gb _ _ fun vb hvb=>?_);cbv) | ((with_reducible first | refine hA.app _ _ _ _ _ ⟨?_,fun zs m hzs hm=>?_⟩ | refine hA.app0 _ _ _ ⟨?_,fun m hm=>?_⟩ | refine hA.st _ _ _ _ _ ⟨?_,fun ds hds=>?_⟩ | refine hA.appv _ _ _ _ _ _ ⟨?_,fun bb m ds hbb hm hds=>?_⟩ | refine hA.vcut _ _ _ _ ⟨?_,fun cs hcs=>?_⟩ | refine hA.appw _ _ _ _ _ _ _ ⟨?_,fun bb m ds hbb hm hds=>?_⟩ | refine hA.sapp _ _ _ ⟨?_,fun sl hsl=>?_⟩);rotate_left;cbv) | (simp only [hA.lits];cbv)
        all_goals try simp only [hA.ar,inR,n_cast,Int.ofNat_eq_natCast,Option.getD_some,Option.getD_none] at *
        all_goals first
          | omega
          | exact go _ _ _ _ _ _ _ _ hst g3 (by assumption) (by assumption) (by assumption) rfl rfl rfl rfl rfl rfl rfl rfl ⟨.inl rfl,.inl rfl,.inl rfl,.inl rfl,.inl rfl,.inl rfl,.inl rfl,.inl rfl,trivial⟩
          | exact ⟨rfl,trivial⟩
          | (simp only [List.length_cons,List.length_nil];omega)
          | (trace_state;fail)
  case neg=>
    have e1:A.lt i ze=false:=by rw [hA.lt];exact decide_eq_false (by omega)
    have hxe:xs=T0:=by rw [hxs];exact List.take_of_length_le (by omega)
    have hmn:n=m:=by rw [hm,hxe,hT0l];omega
    have hb1:b=true:=by rw [hbb];exact decide_eq_true (by omega)
    have hqe:qi=q0+sumN sF ns:=by rw [hq,List.take_of_length_le (by omega)]
    have hus:UsOk cs rt ns n:=by rw [List.take_of_length_le (by omega)] at hus;exact hus
    subst hb1 hmn
    rw [<-hqe] at hfin
    rw [hxe,hT0] at hys
    obtain ⟨out0,hout0⟩: ∃o,o=numL nF sF q0 ns:=⟨_,rfl⟩
    rw [<-hout0] at hfin hys
    have hol0:out0.length=n:=by rw [hout0,numL_len];omega
    clear hK hq hm hbb hxs hxl' hxk hT0 hT0l hT0k hout0 hqe
    cbv
    repeat' first | with_reducible rfl | (simp only [e1];cbv) | with_reducible refine And.intro ?_ ?_ | ((with_reducible intro hcc);first | (cases hcc;done) | skip) | ((with_reducible first | show goC _ _ _ _ _ _ _ _ | show goOps _ _ _ _ _ | show goD _ _ _ _ _ _);cbv) | ((with_reducible show okWr _ _=_);rfl) | ((with_reducible refine hA.len x _ _ _ _ fun z hz hb=>?_);(have e6:=hze.trans hz.symm);subst e6;cbv) | ((with_reducible first | refine hA.fin_pl _ _ _ ?_ | refine hA.len _ _ _ _ _ fun z hz hb=>?_ | refine hA.off _ _ _ _ fun b hb=>?_ | refine hA.plus _ _ _ fun b hb=>?_ | refine hA.rep _ _ _ fun ds m hds hm=>?_ | refine hA.alt _ _ (Or.inl ?_) | refine hA.gb0 true _ ?_ | refine hA.gb0 false _ ?_ | refine hA.gb _ _ fun vb hvb=>?_);cbv) | ((with_reducible first | refine hA.app _ _ _ _ _ ⟨?_,fun zs m hzs hm=>?_⟩ | refine hA.app0 _ _ _ ⟨?_,fun m hm=>?_⟩ | refine hA.st _ _ _ _ _ ⟨?_,fun ds hds=>?_⟩ | refine hA.appv _ _ _ _ _ _ ⟨?_,fun bb m ds hbb hm hds=>?_⟩ | refine hA.vcut _ _ _ _ ⟨?_,fun cs hcs=>?_⟩ | refine hA.appw _ _ _ _ _ _ _ ⟨?_,fun bb m ds hbb hm hds=>?_⟩ | refine hA.sapp _ _ _ ⟨?_,fun sl hsl=>?_⟩);rotate_left;cbv) | (simp only [hA.lits];cbv)
    all_goals try simp only [hA.ar,inR,n_cast,Int.ofNat_eq_natCast,Option.getD_some,Option.getD_none] at *
    all_goals try (first | omega | (have:=hb trivial trivial trivial;omega))
    have hH2: ∀(out:List Nf) (qj:Nat) (ys:List E) (dy:List D),dy=ys.map D.e->H9 x xt rt cs qj n true ys id= [.ids qj,.box [.e (.sl x),.int rt],.box [.e (.sl xt)],.box [.e (.sl []),.int 0],.box dc,.box [.vec 6 n 8,.int rt],.vec true 8 dy]:=fun out qj ys dy e=>by rw [hdc,e];rfl
    refine hA.loopI (fun nn s=> ∃(j:Int) (out:List Nf) (qj:Nat) (ys:List E),0<=j/\nn+j=x.length/\out.length=n/\ys=(out.map nfr).flatten/\(nfs,qf)=runN (askI ns (wOf ws) rt) (wOf ws) (out,qj) j.toNat (ns.drop j.toNat)/\
        s=⟨[(86,.int j),(85,.int ze),(84,.e (.sl x)),(9,.ref 5 0),(8,.bs 4 0 n 1),(6,.e (.sl xw)),(4,.ref 3 0),(2,.ref 1 0)],H9 x xt rt cs qj n true ys id⟩) x.length _
      (Weak.keep (env':= [(86,.int 0),(85,.int ze),(84,.e (.sl x)),(9,.ref 5 0),(8,.bs 4 0 n 1),(6,.e (.sl xw)),(4,.ref 3 0),(2,.ref 1 0)]) ⟨rfl,rfl,rfl,rfl,rfl,rfl,rfl,rfl,trivial⟩)
      ⟨0,out0,qi,ys,by omega,by omega,hol0,hys,hfin,by rw [hH2 out0 qi ys dy hdy]⟩ ?_
    clear hfin hys hol0 hdy hdl hyl
    rintro nn s K2 ⟨j,out,qj,ys,i0,i1,hol,hys,hfin,rfl⟩ hK
    obtain ⟨dy,hdy⟩: ∃d,d=ys.map D.e:=⟨_,rfl⟩
    have hyk: ∀e∈out.map nfr,e.length=8:=fun e h=>by
      obtain ⟨p,_,rfl⟩:=List.mem_map.1 h
      rfl
    have hyl:ys.length=n * 8:=by rw [hys,flatten_len hyk,List.length_map,hol]
    have hdl:dy.length=n * 8:=by rw [hdy,List.length_map,hyl]
    by_cases hin:(0:Int)<=j/\j<x.length
    case neg=>
      have e1:A.lt j ze=false:=by rw [hA.lt];exact decide_eq_false (by omega)
      rw [List.drop_eq_nil_of_le (by omega),runN] at hfin
      have q1:out=nfs:=(congrArg Prod.fst hfin).symm
      have q2:qj=qf:=(congrArg Prod.snd hfin).symm
      subst q1 q2
      rw [hH2 out qj ys dy hdy]
      obtain ⟨zr,hzr⟩: ∃z,z=out.map nfr:=⟨_,rfl⟩
      have hXX:XF= .fs qj zr:=by rw [hXF,hzr];rfl
      have hzl:zr.length=n:=by rw [hzr,List.length_map,hol]
      rw [<-hzr] at hyk hys
      subst hXX hqe
      clear hK hH2 hXF hzr hol
      cbv
      repeat' first | with_reducible rfl | (simp only [e1];cbv) | with_reducible refine And.intro ?_ ?_ | ((with_reducible intro hcc);first | (cases hcc;done) | skip) | ((with_reducible first | show goC _ _ _ _ _ _ _ _ | show goOps _ _ _ _ _ | show goD _ _ _ _ _ _);cbv) | ((with_reducible show okWr _ _=_);rfl) | ((with_reducible refine hA.finv _ _ _ _ _ ((finv_vecFs (t:=0) (es:=zr) rfl rfl ?_ ?_ hyk).ctx (Plc.tup (Plc.agg Plc.refl rfl) rfl)))) | ((with_reducible first | refine hA.fin_pl _ _ _ ?_ | refine hA.len _ _ _ _ _ fun z hz hb=>?_ | refine hA.off _ _ _ _ fun b hb=>?_ | refine hA.plus _ _ _ fun b hb=>?_ | refine hA.rep _ _ _ fun ds m hds hm=>?_ | refine hA.alt _ _ (Or.inl ?_) | refine hA.gb0 true _ ?_ | refine hA.gb0 false _ ?_ | refine hA.gb _ _ fun vb hvb=>?_);cbv) | ((with_reducible first | refine hA.app _ _ _ _ _ ⟨?_,fun zs m hzs hm=>?_⟩ | refine hA.app0 _ _ _ ⟨?_,fun m hm=>?_⟩ | refine hA.st _ _ _ _ _ ⟨?_,fun ds hds=>?_⟩ | refine hA.appv _ _ _ _ _ _ ⟨?_,fun bb m ds hbb hm hds=>?_⟩ | refine hA.vcut _ _ _ _ ⟨?_,fun cs hcs=>?_⟩ | refine hA.appw _ _ _ _ _ _ _ ⟨?_,fun bb m ds hbb hm hds=>?_⟩ | refine hA.sapp _ _ _ ⟨?_,fun sl hsl=>?_⟩);rotate_left;cbv) | (simp only [hA.lits];cbv)
      all_goals try simp only [hA.ar,inR,n_cast,Int.ofNat_eq_natCast,Option.getD_some,Option.getD_none] at *
      all_goals first
        | omega
        | exact hzl
        | (rw [hdy,hys,List.take_of_length_le];rw [List.length_map,flatten_len hyk,hzl];exact Nat.le_refl _)
        | (trace_state;fail)
    have e1:A.lt j ze=true:=by rw [hA.lt];exact decide_eq_true (by omega)
    obtain ⟨K,T,M,W,Ex,Exs,L,R,xe,ye,hd,hxe,hye,hrow0⟩:=fd_at hx hin
    obtain ⟨d,hdd⟩: ∃d:Fd,d=⟨K,T,M,W,Ex,Exs,L,R⟩:=⟨_,rfl⟩
    rw [<-hdd] at hd
    have hlen':=hlen d (List.mem_of_getElem? hd)
    have hLd:=fok.a.L _ d hd
    have hex:=fok.ex d (List.mem_of_getElem? hd)
    rw [show d.L=L by rw [hdd]] at hLd
    rw [show d.K=K by rw [hdd],show d.Ex=Ex by rw [hdd]] at hex
    rw [show d.Ex=Ex by rw [hdd]] at hlen'
    have hinL:(0:Int)<=L/\L<x.length:=by omega
    have hexl:xe.length<=1048576:=by rw [hxe,List.length_map];exact hlen'.1
    obtain ⟨dL,hdL⟩: ∃d,d=nodeAt ns L:=⟨_,rfl⟩
    have hrowL:=(node_row hx hinL).2
    rw [<-hdL] at hrowL
    obtain ⟨Kl,Tl,Ml,Wl,Exl,Exsl,Ll,Rl⟩:=dL
    obtain ⟨xl2,hxl2⟩: ∃x,x=Exl.map orow:=⟨_,rfl⟩
    obtain ⟨yl2,hyl2⟩: ∃x,x=Exsl.map orr:=⟨_,rfl⟩
    have hrowL:x.getD L.toNat []= [E.int Kl,E.int Tl,E.int Ml,E.int Wl,E.sl xl2,E.sl yl2,E.int Ll,E.int Rl]:=by rw [hrowL,hxl2,hyl2]
    have hKl:(nodeAt ns L).K=Kl:=by rw [<-hdL]
    obtain ⟨u,hu⟩: ∃u,u=(if rt=L then (1:Int) else 0)+uses L ns:=⟨_,rfl⟩
    have hcu:cs[L.toNat]?=some u:=by
      have:=hus.2 L.toNat (by omega)
      rw [show ((L.toNat:Nat):Int)=L by omega] at this
      rw [this,hu]
    have ld1: ∀ {b:Nat} {c:D},b=0+L.toNat * 1->c=dc.getD b default->c= .int u:=fun {b c} a q=>dsI_get hdc (by rw [show b=L.toNat by omega];exact hcu) q
    have hinW:(0:Int)<=L/\L<xw.length:=by rw [hxw,List.length_map,fok.a.len];omega
    have hrowW:=ir_row hxw hinW
    obtain ⟨w0,hw0⟩: ∃w,w=ws.getD L.toNat 0:=⟨_,rfl⟩
    rw [<-hw0] at hrowW
    have hwb:0<=w0/\w0<=200:=by
      have hl:L.toNat<ws.length:=by rw [hxw,List.length_map] at hinW;omega
      rw [hw0,List.getD,List.getElem?_eq_getElem hl]
      exact fok.a.rng _ (List.getElem_mem hl)
    obtain ⟨wm,hwm⟩: ∃w,w=A.sub w0 1:=⟨_,rfl⟩
    have hwm':wm=w0-1:=by rw [hwm,hA.sub]
    obtain ⟨a,ha⟩: ∃a,a=askI ns (wOf ws) rt d:=⟨_,rfl⟩
    have ha':a=if K≠3\/Kl≠6\/u≠1 then 0 else exAskI Ex wm:=by
      rw [ha,askI,show d.L=L by rw [hdd],hKl,show d.K=K by rw [hdd],<-hu,show d.Ex=Ex by rw [hdd],hwm',hw0]
    have hcl:dc.length=n:=by rw [hdc,dsI_len,hus.1]
    have hdrop:ns.drop j.toNat=d::ns.drop (j.toNat+1):=by
      obtain ⟨q1,q2⟩:=List.getElem?_eq_some_iff.1 hd
      rw [List.drop_eq_getElem_cons q1,q2]
    rw [hdrop,runN,<-show (j+1).toNat=j.toNat+1 by omega] at hfin
    rw [hH2 out qj ys dy hdy]
    have go: ∀(out2:List Nf) (q2:Nat) (ds2:List D) (env:List (Nat×D)) (hp:List O),stepN (askI ns (wOf ws) rt) (wOf ws) out qj j.toNat d=(out2,q2)->out2.length=n->ds2=((out2.map nfr).flatten).map D.e->hpAll (hpF hp) [0,1,2,3,4,5,6] [.ids q2,.box [.e (.sl x),.int rt],.box [.e (.sl xt)],.box [.e (.sl []),.int 0],.box dc,.box [.vec 6 n 8,.int rt],.vec true 8 ds2]->
        subW [(86,.int (j+1)),(85,.int ze),(84,.e (.sl x)),(9,.ref 5 0),(8,.bs 4 0 n 1),(6,.e (.sl xw)),(4,.ref 3 0),(2,.ref 1 0)] env->K2 ⟨env,hp⟩:=fun out2 q2 ds2 env hp g1 g2 g3 g4 g5=>by
      rw [g1] at hfin
      exact hK _ (nn-1) _ (by omega) (Weak.ren (l0:= [.ids q0]) [0,1,2,3,4,5,6] (fun t=> [(86,.int (j+1)),(85,.int ze),(84,.e (.sl x)),(9,.ref (t 5) 0),(8,.bs (t 4) 0 n 1),(6,.e (.sl xw)),(4,.ref (t 3) 0),(2,.ref (t 1) 0)]) (H9 x xt rt cs q2 n true (out2.map nfr).flatten) rfl g5 (by rw [g3,hdc] at g4;exact g4) (H9_side (fun t=>rfl) rfl))
        ⟨j+1,out2,q2,_,by omega,by omega,g2,rfl,hfin,rfl⟩
    have goW: ∀(out2:List Nf) (q2:Nat) (ds2:List D) (env0:List (Nat×D)) (hp0:List O) (env:List (Nat×D)) (hp:List O),Weak (hpF [.ids q0]) ⟨env0,hp0⟩ ⟨env,hp⟩->stepN (askI ns (wOf ws) rt) (wOf ws) out qj j.toNat d=(out2,q2)->out2.length=n->ds2=((out2.map nfr).flatten).map D.e->hpAll (hpF hp) [0,1,2,3,4,5,6] [.ids q2,.box [.e (.sl x),.int rt],.box [.e (.sl xt)],.box [.e (.sl []),.int 0],.box dc,.box [.vec 6 n 8,.int rt],.vec true 8 ds2]->
        subW [(86,.int (j+1)),(85,.int ze),(84,.e (.sl x)),(9,.ref 5 0),(8,.bs 4 0 n 1),(6,.e (.sl xw)),(4,.ref 3 0),(2,.ref 1 0)] env->K2 ⟨env0,hp0⟩:=fun out2 q2 ds2 env0 hp0 env hp W0 g1 g2 g3 g4 g5=>by
      rw [g1] at hfin
      exact hK _ (nn-1) _ (by omega) (W0.trans (Weak.ren (l0:= [.ids q0]) [0,1,2,3,4,5,6] (fun t=> [(86,.int (j+1)),(85,.int ze),(84,.e (.sl x)),(9,.ref (t 5) 0),(8,.bs (t 4) 0 n 1),(6,.e (.sl xw)),(4,.ref (t 3) 0),(2,.ref (t 1) 0)]) (H9 x xt rt cs q2 n true (out2.map nfr).flatten) rfl g5 (by rw [g3,hdc] at g4;exact g4) (H9_side (fun t=>rfl) rfl)))
        ⟨j+1,out2,q2,_,by omega,by omega,g2,rfl,hfin,rfl⟩
    have hdL2:d.L=L:=by rw [hdd]
    have hstp:0<a->stepN (askI ns (wOf ws) rt) (wOf ws) out qj j.toNat d=((out.set L.toNat {out.getD L.toNat default with K:=9+a}).set j.toNat (mapNf qj d w0 a),qj+sM w0 a):=fun h=>by
      rw [stepN,<-ha,if_pos h,hdL2,show wOf ws L=w0 from hw0.symm]
    have hsk:a=0->stepN (askI ns (wOf ws) rt) (wOf ws) out qj j.toNat d=(out,qj):=fun h=>by
      rw [stepN,<-ha,h];rfl
    have hdy2:dy=((out.map nfr).flatten).map D.e:=by rw [hdy,hys]
    clear hK hfin hlen fok hdrop hdL hxl2 hyl2 hKl hu hcu hus hH2 hw0 ha hx hdd
    by_cases c1:K=3
    case neg=>
      have e2:A.eq K 3=false:=by rw [hA.eq];exact decide_eq_false c1
      have ha0:a=0:=by rw [ha',if_pos (.inl c1)]
      clear goW hstp
      have go0:=fun env hp=>go out qj dy env hp (hsk ha0) hol hdy2
      clear go hsk ha' hdy2 hys hdy
      cbv
      repeat' first | with_reducible rfl | (simp only [e1,e2];cbv) | with_reducible refine And.intro ?_ ?_ | ((with_reducible intro hcc);first | (cases hcc;done) | skip) | ((with_reducible first | show goC _ _ _ _ _ _ _ _ | show goOps _ _ _ _ _ | show goD _ _ _ _ _ _);cbv) | ((with_reducible show okWr _ _=_);rfl) | ((with_reducible refine hA.row x j _ ⟨hin,fun row hrow=>?_⟩);rw [hrow0] at hrow;subst hrow;cbv) | ((with_reducible refine hA.alt _ _ (Or.inr ⟨?_,.bool false,?_⟩));(first | rfl | trivial);cbv) | ((with_reducible refine hA.row0 x _ _ fun p row=>?_);cbv) | ((with_reducible refine hA.ld1 _ _ _ ⟨?_,fun c hc=>?_⟩);rotate_left;(first | ((have e9:=ld1 (by assumption) hc);subst e9));cbv) | ((with_reducible first | refine hA.fin_pl _ _ _ ?_ | refine hA.len _ _ _ _ _ fun z hz hb=>?_ | refine hA.off _ _ _ _ fun b hb=>?_ | refine hA.plus _ _ _ fun b hb=>?_ | refine hA.rep _ _ _ fun ds m hds hm=>?_ | refine hA.alt _ _ (Or.inl ?_) | refine hA.gb0 true _ ?_ | refine hA.gb0 false _ ?_ | refine hA.gb _ _ fun vb hvb=>?_);cbv) | ((with_reducible first | refine hA.app _ _ _ _ _ ⟨?_,fun zs m hzs hm=>?_⟩ | refine hA.app0 _ _ _ ⟨?_,fun m hm=>?_⟩ | refine hA.st _ _ _ _ _ ⟨?_,fun ds hds=>?_⟩ | refine hA.appv _ _ _ _ _ _ ⟨?_,fun bb m ds hbb hm hds=>?_⟩ | refine hA.vcut _ _ _ _ ⟨?_,fun cs hcs=>?_⟩ | refine hA.appw _ _ _ _ _ _ _ ⟨?_,fun bb m ds hbb hm hds=>?_⟩ | refine hA.sapp _ _ _ ⟨?_,fun sl hsl=>?_⟩);rotate_left;cbv) | (simp only [hA.lits];cbv)
      all_goals try simp only [hA.ar,inR,n_cast,Int.ofNat_eq_natCast,Option.getD_some,Option.getD_none] at *
      all_goals first
        | omega
        | exact go0 _ _ ⟨rfl,rfl,rfl,rfl,rfl,rfl,rfl,trivial⟩ ⟨.inl rfl,.inl rfl,.inl rfl,.inl rfl,.inl rfl,.inl rfl,.inl rfl,.inl rfl,trivial⟩
        | (trace_state;fail)
    have e2:A.eq K 3=true:=by rw [hA.eq];exact decide_eq_true c1
    by_cases c2:Kl=6
    case neg=>
      have e3:A.eq Kl 6=false:=by rw [hA.eq];exact decide_eq_false c2
      have ha0:a=0:=by rw [ha',if_pos (.inr (.inl c2))]
      clear goW hstp
      have go0:=fun env hp=>go out qj dy env hp (hsk ha0) hol hdy2
      clear go hsk ha' hdy2 hys hdy
      cbv
      repeat' first | with_reducible rfl | (simp only [e1,e2,e3];cbv) | with_reducible refine And.intro ?_ ?_ | ((with_reducible intro hcc);first | (cases hcc;done) | skip) | ((with_reducible first | show goC _ _ _ _ _ _ _ _ | show goOps _ _ _ _ _ | show goD _ _ _ _ _ _);cbv) | ((with_reducible show okWr _ _=_);rfl) | ((with_reducible refine hA.row x j _ ⟨hin,fun row hrow=>?_⟩);rw [hrow0] at hrow;subst hrow;cbv) | ((with_reducible refine hA.row x L _ ⟨hinL,fun row hrow=>?_⟩);rw [hrowL] at hrow;subst hrow;cbv) | ((with_reducible refine hA.ld1 _ _ _ ⟨?_,fun c hc=>?_⟩);rotate_left;(first | ((have e9:=ld1 (by assumption) hc);subst e9));cbv) | ((with_reducible first | refine hA.fin_pl _ _ _ ?_ | refine hA.len _ _ _ _ _ fun z hz hb=>?_ | refine hA.off _ _ _ _ fun b hb=>?_ | refine hA.plus _ _ _ fun b hb=>?_ | refine hA.rep _ _ _ fun ds m hds hm=>?_ | refine hA.alt _ _ (Or.inl ?_) | refine hA.gb0 true _ ?_ | refine hA.gb0 false _ ?_ | refine hA.gb _ _ fun vb hvb=>?_);cbv) | ((with_reducible first | refine hA.app _ _ _ _ _ ⟨?_,fun zs m hzs hm=>?_⟩ | refine hA.app0 _ _ _ ⟨?_,fun m hm=>?_⟩ | refine hA.st _ _ _ _ _ ⟨?_,fun ds hds=>?_⟩ | refine hA.appv _ _ _ _ _ _ ⟨?_,fun bb m ds hbb hm hds=>?_⟩ | refine hA.vcut _ _ _ _ ⟨?_,fun cs hcs=>?_⟩ | refine hA.appw _ _ _ _ _ _ _ ⟨?_,fun bb m ds hbb hm hds=>?_⟩ | refine hA.sapp _ _ _ ⟨?_,fun sl hsl=>?_⟩);rotate_left;cbv) | (simp only [hA.lits];cbv)
      all_goals try simp only [hA.ar,inR,n_cast,Int.ofNat_eq_natCast,Option.getD_some,Option.getD_none] at *
      all_goals first
        | omega
        | exact go0 _ _ ⟨rfl,rfl,rfl,rfl,rfl,rfl,rfl,trivial⟩ ⟨.inl rfl,.inl rfl,.inl rfl,.inl rfl,.inl rfl,.inl rfl,.inl rfl,.inl rfl,trivial⟩
        | (trace_state;fail)
    have e3:A.eq Kl 6=true:=by rw [hA.eq];exact decide_eq_true c2
    by_cases c3:u=1
    case neg=>
      have e4:A.eq u 1=false:=by rw [hA.eq];exact decide_eq_false c3
      have ha0:a=0:=by rw [ha',if_pos (.inr (.inr c3))]
      clear goW hstp
      have go0:=fun env hp=>go out qj dy env hp (hsk ha0) hol hdy2
      clear go hsk ha' hdy2 hys hdy
      cbv
      repeat' first | with_reducible rfl | (simp only [e1,e2,e3,e4];cbv) | with_reducible refine And.intro ?_ ?_ | ((with_reducible intro hcc);first | (cases hcc;done) | skip) | ((with_reducible first | show goC _ _ _ _ _ _ _ _ | show goOps _ _ _ _ _ | show goD _ _ _ _ _ _);cbv) | ((with_reducible show okWr _ _=_);rfl) | ((with_reducible refine hA.row x j _ ⟨hin,fun row hrow=>?_⟩);rw [hrow0] at hrow;subst hrow;cbv) | ((with_reducible refine hA.row x L _ ⟨hinL,fun row hrow=>?_⟩);rw [hrowL] at hrow;subst hrow;cbv) | ((with_reducible refine hA.ld1 _ _ _ ⟨?_,fun c hc=>?_⟩);rotate_left;(first | ((have e9:=ld1 (by assumption) hc);subst e9));cbv) | ((with_reducible first | refine hA.fin_pl _ _ _ ?_ | refine hA.len _ _ _ _ _ fun z hz hb=>?_ | refine hA.off _ _ _ _ fun b hb=>?_ | refine hA.plus _ _ _ fun b hb=>?_ | refine hA.rep _ _ _ fun ds m hds hm=>?_ | refine hA.alt _ _ (Or.inl ?_) | refine hA.gb0 true _ ?_ | refine hA.gb0 false _ ?_ | refine hA.gb _ _ fun vb hvb=>?_);cbv) | ((with_reducible first | refine hA.app _ _ _ _ _ ⟨?_,fun zs m hzs hm=>?_⟩ | refine hA.app0 _ _ _ ⟨?_,fun m hm=>?_⟩ | refine hA.st _ _ _ _ _ ⟨?_,fun ds hds=>?_⟩ | refine hA.appv _ _ _ _ _ _ ⟨?_,fun bb m ds hbb hm hds=>?_⟩ | refine hA.vcut _ _ _ _ ⟨?_,fun cs hcs=>?_⟩ | refine hA.appw _ _ _ _ _ _ _ ⟨?_,fun bb m ds hbb hm hds=>?_⟩ | refine hA.sapp _ _ _ ⟨?_,fun sl hsl=>?_⟩);rotate_left;cbv) | (simp only [hA.lits];cbv)
      all_goals try simp only [hA.ar,inR,n_cast,Int.ofNat_eq_natCast,Option.getD_some,Option.getD_none] at *
      all_goals first
        | omega
        | exact go0 _ _ ⟨rfl,rfl,rfl,rfl,rfl,rfl,rfl,trivial⟩ ⟨.inl rfl,.inl rfl,.inl rfl,.inl rfl,.inl rfl,.inl rfl,.inl rfl,.inl rfl,trivial⟩
        | (trace_state;fail)
    have e4:A.eq u 1=true:=by rw [hA.eq];exact decide_eq_true c3
    obtain ⟨k1,n1,rest,hEx⟩: ∃k1 n1 rest,Ex=(k1,n1)::rest:=by
      obtain ⟨c,hc⟩:=hex c1
      cases Ex with
      | nil=>exact absurd hc (by simp [exOk])
      | cons p r=>exact ⟨p.1,p.2,r,rfl⟩
    have h261:=ok100 k1 n1 rest xe (by rw [hxe,hEx]) hexl wm
    rw [<-hEx] at h261
    have ha1:a=exAskI Ex wm:=by rw [ha',if_neg (by simp [c1,c2,c3])]
    rw [<-ha1] at h261
    have hab:0<=a/\a<=2:=by rw [ha1];exact exAskI_bnd Ex wm
    clear ha1 ha' hEx
    by_cases c4:a=0
    case pos=>
      have e5:A.eq a 0=true:=by rw [hA.eq];exact decide_eq_true c4
      clear goW hstp
      have go0:=fun env hp=>go out qj dy env hp (hsk c4) hol hdy2
      clear go hsk hdy2 hys hdy
      cbv
      repeat' first | with_reducible rfl | (simp only [e1,e2,e3,e4,e5,<-hwm];cbv) | with_reducible refine And.intro ?_ ?_ | ((with_reducible intro hcc);first | (cases hcc;done) | skip) | ((with_reducible first | show goC _ _ _ _ _ _ _ _ | show goOps _ _ _ _ _ | show goD _ _ _ _ _ _);cbv) | ((with_reducible show okWr _ _=_);rfl) | ((with_reducible first | refine callK_f hA hP h261 ?_ ?_ ?_);exact rfl;exact rfl;cbv) | ((with_reducible refine hA.row x j _ ⟨hin,fun row hrow=>?_⟩);rw [hrow0] at hrow;subst hrow;cbv) | ((with_reducible refine hA.row x L _ ⟨hinL,fun row hrow=>?_⟩);rw [hrowL] at hrow;subst hrow;cbv) | ((with_reducible refine hA.row xw L _ ⟨hinW,fun row hrow=>?_⟩);rw [hrowW] at hrow;subst hrow;cbv) | ((with_reducible refine hA.ld1 _ _ _ ⟨?_,fun c hc=>?_⟩);rotate_left;(first | ((have e9:=ld1 (by assumption) hc);subst e9));cbv) | ((with_reducible first | refine hA.fin_pl _ _ _ ?_ | refine hA.len _ _ _ _ _ fun z hz hb=>?_ | refine hA.off _ _ _ _ fun b hb=>?_ | refine hA.plus _ _ _ fun b hb=>?_ | refine hA.rep _ _ _ fun ds m hds hm=>?_ | refine hA.alt _ _ (Or.inl ?_) | refine hA.gb0 true _ ?_ | refine hA.gb0 false _ ?_ | refine hA.gb _ _ fun vb hvb=>?_);cbv) | ((with_reducible first | refine hA.app _ _ _ _ _ ⟨?_,fun zs m hzs hm=>?_⟩ | refine hA.app0 _ _ _ ⟨?_,fun m hm=>?_⟩ | refine hA.st _ _ _ _ _ ⟨?_,fun ds hds=>?_⟩ | refine hA.appv _ _ _ _ _ _ ⟨?_,fun bb m ds hbb hm hds=>?_⟩ | refine hA.vcut _ _ _ _ ⟨?_,fun cs hcs=>?_⟩ | refine hA.appw _ _ _ _ _ _ _ ⟨?_,fun bb m ds hbb hm hds=>?_⟩ | refine hA.sapp _ _ _ ⟨?_,fun sl hsl=>?_⟩);rotate_left;cbv) | (simp only [hA.lits];cbv)
      all_goals try simp only [hA.ar,inR,n_cast,Int.ofNat_eq_natCast,Option.getD_some,Option.getD_none] at *
      all_goals first
        | omega
        | exact go0 _ _ ⟨rfl,rfl,rfl,rfl,rfl,rfl,rfl,trivial⟩ ⟨.inl rfl,.inl rfl,.inl rfl,.inl rfl,.inl rfl,.inl rfl,.inl rfl,.inl rfl,trivial⟩
        | (trace_state;fail)
    have e5:A.eq a 0=false:=by rw [hA.eq];exact decide_eq_false c4
    clear hsk
    cbv
    repeat' first | with_reducible rfl | (simp only [e1,e2,e3,e4,e5,<-hwm];cbv) | with_reducible refine And.intro ?_ ?_ | ((with_reducible intro hcc);first | (cases hcc;done) | skip) | ((with_reducible first | show goC _ _ _ _ _ _ _ _ | show goOps _ _ _ _ _ | show goD _ _ _ _ _ _);cbv) | ((with_reducible show okWr _ _=_);rfl) | ((with_reducible first | refine callK_f hA hP h261 ?_ ?_ ?_);exact rfl;exact rfl;cbv) | ((with_reducible refine hA.row x j _ ⟨hin,fun row hrow=>?_⟩);rw [hrow0] at hrow;subst hrow;cbv) | ((with_reducible refine hA.row x L _ ⟨hinL,fun row hrow=>?_⟩);rw [hrowL] at hrow;subst hrow;cbv) | ((with_reducible refine hA.row xw L _ ⟨hinW,fun row hrow=>?_⟩);rw [hrowW] at hrow;subst hrow;cbv) | ((with_reducible refine hA.ld1 _ _ _ ⟨?_,fun c hc=>?_⟩);rotate_left;(first | ((have e9:=ld1 (by assumption) hc);subst e9));cbv) | ((with_reducible first | refine hA.fin_pl _ _ _ ?_ | refine hA.len _ _ _ _ _ fun z hz hb=>?_ | refine hA.off _ _ _ _ fun b hb=>?_ | refine hA.plus _ _ _ fun b hb=>?_ | refine hA.rep _ _ _ fun ds m hds hm=>?_ | refine hA.alt _ _ (Or.inl ?_) | refine hA.gb0 true _ ?_ | refine hA.gb0 false _ ?_ | refine hA.gb _ _ fun vb hvb=>?_);cbv) | ((with_reducible first | refine hA.app _ _ _ _ _ ⟨?_,fun zs m hzs hm=>?_⟩ | refine hA.app0 _ _ _ ⟨?_,fun m hm=>?_⟩ | refine hA.st _ _ _ _ _ ⟨?_,fun ds hds=>?_⟩ | refine hA.appv _ _ _ _ _ _ ⟨?_,fun bb m ds hbb hm hds=>?_⟩ | refine hA.vcut _ _ _ _ ⟨?_,fun cs hcs=>?_⟩ | refine hA.appw _ _ _ _ _ _ _ ⟨?_,fun bb m ds hbb hm hds=>?_⟩ | refine hA.sapp _ _ _ ⟨?_,fun sl hsl=>?_⟩);rotate_left;cbv) | (simp only [hA.lits];cbv)
    all_goals try simp only [hA.ar,inR,n_cast,Int.ofNat_eq_natCast,Option.getD_some,Option.getD_none] at *
    all_goals try omega
    obtain ⟨rw0,hrw0⟩: ∃r,r= [E.int K,E.int T,E.int M,E.int W,E.sl xe,E.sl ye,E.int L,E.int R]:=⟨_,rfl⟩
    obtain ⟨T1,hT1⟩: ∃T,T=(numL nX one1 qj (colsE wm)).map xrow:=⟨_,rfl⟩
    have hT1l:T1.length=wm.toNat:=by rw [hT1,List.length_map,numL_len,colsE_len]
    have hT1k: ∀e∈T1,e.length=1:=by
      rw [hT1];intro e h
      obtain ⟨p,_,rfl⟩:=List.mem_map.1 h
      rfl
    have hH3: ∀(qc:Nat) (b:Bool) (zs:List E) (dz:List D),dz=zs.map D.e->H10 x xt rt cs qc n ys rw0 b zs id= [.ids qc,.box [.e (.sl x),.int rt],.box [.e (.sl xt)],.box [.e (.sl []),.int 0],.box dc,.box [.vec 6 n 8,.int rt],.vec true 8 dy,.box [.int K,.int T,.int M,.int W,.e (.sl xe),.e (.sl ye),.int L,.int R],.vec b 1 dz]:=fun qc b zs dz e=>by rw [hdc,e,hdy,hrw0];rfl
    refine hA.loopI (fun n3 s=> ∃(c:Int) (qc:Nat) (xs:List (List E)) (zs:List E) (b:Bool) (m:Nat),0<=c/\n3+c.toNat=wm.toNat/\qc=qj+c.toNat/\xs=T1.take c.toNat/\zs=xs.flatten/\m=xs.length/\b=decide (0<m)/\
        s=⟨[(126,.int c),(125,.int wm),(16,.vec 8 m 1),(15,.int a),(13,.ref 7 0),(12,.int j),(86,.int j),(85,.int ze),(84,.e (.sl x)),(9,.ref 5 0),(8,.bs 4 0 n 1),(6,.e (.sl xw)),(4,.ref 3 0),(2,.ref 1 0)],H10 x xt rt cs qc n ys rw0 b zs id⟩) wm.toNat _
      ((Weak.zvec 16 1 rfl).trans (Weak.keep (env':= [(126,.int 0),(125,.int wm),(16,.vec 8 0 1),(15,.int a),(13,.ref 7 0),(12,.int j),(86,.int j),(85,.int ze),(84,.e (.sl x)),(9,.ref 5 0),(8,.bs 4 0 n 1),(6,.e (.sl xw)),(4,.ref 3 0),(2,.ref 1 0)]) ⟨rfl,rfl,rfl,rfl,rfl,rfl,rfl,rfl,rfl,rfl,rfl,rfl,rfl,rfl,trivial⟩))
      ⟨0,qj, [], [],false,0,by omega,by simp,by simp,rfl,rfl,rfl,rfl,by rw [hH3 qj false [] [] rfl];rfl⟩ ?_
    rintro n3 s K3 ⟨c,qc,xs,zs,b,m,c0,c1',hqc,hxs,hzs,hm,hbb,rfl⟩ hK3
    have hxl':xs.length=c.toNat:=by rw [hxs,List.length_take];omega
    have hxk: ∀e∈xs,e.length=1:=fun e h=>hT1k e (by rw [hxs] at h;exact List.mem_of_mem_take h)
    have hzl:zs.length=m * 1:=by rw [hzs,flatten_len hxk,hm]
    obtain ⟨dz,hdz⟩: ∃d,d=zs.map D.e:=⟨_,rfl⟩
    have hdzl:dz.length=m * 1:=by rw [hdz,List.length_map,hzl]
    rw [hH3 qc b zs dz hdz]
    by_cases hcw:c<wm
    case pos=>
      have e6:A.lt c wm=true:=by rw [hA.lt];exact decide_eq_true hcw
      obtain ⟨X1,hX1⟩: ∃X,X=eX (qc, [(3,c)]):=⟨_,rfl⟩
      obtain ⟨qd,hqd⟩: ∃q,q=qc+1:=⟨_,rfl⟩
      have h262:=n262 qc c
      rw [<-hX1,<-hqd] at h262
      have hrow:T1.take (c+1).toNat=xs++ [[X1]]:=by
        rw [show (c+1).toNat=c.toNat+1 by omega,List.take_add_one,<-hxs,hT1,List.getElem?_map,numL_get,colsE,List.getElem?_map,List.getElem?_range (by omega),Option.map_some,Option.map_some,Option.map_some,sum1,List.length_take,List.length_map,List.length_range,Nat.min_eq_left (by omega),<-hqc,hX1,nX,colE,show ((c.toNat:Nat):Int)=c by omega]
        rfl
      have go3: ∀(b':Bool) (m':Nat) (ds':List D) (k:Nat) (env:List (Nat×D)) (hp:List O),b'=(b || decide (0<([[X1]]:List (List E)).length))->m'=m+([[X1]]:List (List E)).length->ds'=dz.take (m * 1)++([[X1]]:List (List E)).flatten.map .e->
          hpAll (hpF hp) [0,1,2,3,4,5,6,7,k] [.ids qd,.box [.e (.sl x),.int rt],.box [.e (.sl xt)],.box [.e (.sl []),.int 0],.box dc,.box [.vec 6 n 8,.int rt],.vec true 8 dy,.box [.int K,.int T,.int M,.int W,.e (.sl xe),.e (.sl ye),.int L,.int R],.vec b' 1 ds']->(ndB [0,1,2,3,4,5,6,7,k]&&firstB 1 [0,1,2,3,4,5,6,7,k] 0)=true->
          subW [(126,.int (c+1)),(125,.int wm),(16,.vec k m' 1),(15,.int a),(13,.ref 7 0),(12,.int j),(86,.int j),(85,.int ze),(84,.e (.sl x)),(9,.ref 5 0),(8,.bs 4 0 n 1),(6,.e (.sl xw)),(4,.ref 3 0),(2,.ref 1 0)] env->K3 ⟨env,hp⟩:=fun b' m' ds' k env hp g1 g2 g3 g4 g5 g6=>by
        have hds:ds'=(zs++ [X1]).map .e:=by
          rw [g3,List.take_of_length_le (by omega),hdz]
          simp
        refine hK3 _ (n3-1) _ (by omega) (Weak.ren (l0:= [.ids q0]) [0,1,2,3,4,5,6,7,k] (fun t=> [(126,.int (c+1)),(125,.int wm),(16,.vec (t 8) m' 1),(15,.int a),(13,.ref (t 7) 0),(12,.int j),(86,.int j),(85,.int ze),(84,.e (.sl x)),(9,.ref (t 5) 0),(8,.bs (t 4) 0 n 1),(6,.e (.sl xw)),(4,.ref (t 3) 0),(2,.ref (t 1) 0)]) (H10 x xt rt cs qd n ys rw0 b' (zs++ [X1])) g5 g6 (by rw [hds,hdc,hdy] at g4;rw [hrw0];exact g4) (H10_side (fun t=>rfl) rfl))
          ⟨c+1,qd,xs++ [[X1]],zs++ [X1],b',m',by omega,by omega,by omega,hrow.symm,by rw [hzs] <;>simp,by rw [g2,hm] <;>simp,by rw [g1,g2] <;>simp,rfl⟩
      clear hK3 hrow hT1 hX1 hzs hxs hdz hH3 go
      cbv
      repeat' first | with_reducible rfl | (simp only [e6];cbv) | with_reducible refine And.intro ?_ ?_ | ((with_reducible intro hcc);first | (cases hcc;done) | skip) | ((with_reducible first | show goC _ _ _ _ _ _ _ _ | show goOps _ _ _ _ _ | show goD _ _ _ _ _ _);cbv) | ((with_reducible show okWr _ _=_);rfl) | ((with_reducible show A.call _ _ _ _ _ 101 _ _ _);have hc:=h262;refine callK_pr hA hP [0] (by rfl) (by exact ⟨rfl,trivial⟩) (Wks.refl _) ?_ (fun _ _=>hc) hc.side;cbv) | ((with_reducible first | refine hA.fin_pl _ _ _ ?_ | refine hA.len _ _ _ _ _ fun z hz hb=>?_ | refine hA.off _ _ _ _ fun b hb=>?_ | refine hA.plus _ _ _ fun b hb=>?_ | refine hA.rep _ _ _ fun ds m hds hm=>?_ | refine hA.alt _ _ (Or.inl ?_) | refine hA.gb0 true _ ?_ | refine hA.gb0 false _ ?_ | refine hA.gb _ _ fun vb hvb=>?_);cbv) | ((with_reducible first | refine hA.app _ _ _ _ _ ⟨?_,fun zs m hzs hm=>?_⟩ | refine hA.app0 _ _ _ ⟨?_,fun m hm=>?_⟩ | refine hA.st _ _ _ _ _ ⟨?_,fun ds hds=>?_⟩ | refine hA.appv _ _ _ _ _ _ ⟨?_,fun bb m ds hbb hm hds=>?_⟩ | refine hA.vcut _ _ _ _ ⟨?_,fun cs hcs=>?_⟩ | refine hA.appw _ _ _ _ _ _ _ ⟨?_,fun bb m ds hbb hm hds=>?_⟩ | refine hA.sapp _ _ _ ⟨?_,fun sl hsl=>?_⟩);rotate_left;cbv) | (simp only [hA.lits];cbv)
      all_goals try simp only [hA.ar,inR,n_cast,Int.ofNat_eq_natCast,Option.getD_some,Option.getD_none] at *
      all_goals first
        | omega
        | exact go3 _ _ _ _ _ _ (by assumption) (by assumption) (by assumption) ⟨rfl,rfl,rfl,rfl,rfl,rfl,rfl,rfl,rfl,trivial⟩ rfl ⟨.inl rfl,.inl rfl,.inl rfl,.inl rfl,.inl rfl,.inl rfl,.inl rfl,.inl rfl,.inl rfl,.inl rfl,.inl rfl,.inl rfl,.inl rfl,.inl rfl,trivial⟩
        | exact ⟨rfl,trivial⟩
        | (simp only [List.length_cons,List.length_nil];omega)
        | (trace_state;fail)
    have e6:A.lt c wm=false:=by rw [hA.lt];exact decide_eq_false hcw
    have hcm:c.toNat=wm.toNat:=by omega
    have hxT:xs=T1:=by rw [hxs,hcm];exact List.take_of_length_le (by omega)
    obtain ⟨a2,ha2⟩: ∃y,y=A.sub 2 a:=⟨_,rfl⟩
    have ha2':a2=2-a:=by rw [ha2,hA.sub]
    obtain ⟨k9,hk9⟩: ∃y,y=9+a:=⟨_,rfl⟩
    have hg9:([[E.int 0], [E.int 10], [E.int 11]]:List (List E)).getD a.toNat []= [E.int k9]:=by
      rcases (show a=1\/a=2 by omega) with h | h <;>(rw [hk9,h];rfl)
    have hin9:(0:Int)<=a/\a<(([[E.int 0], [E.int 10], [E.int 11]]:List (List E)).length:Nat):=⟨by omega,by simp;omega⟩
    have hzT:zs=T1.flatten:=by rw [hzs,hxT]
    have hmT:m=T1.length:=by rw [hm,hxT]
    have hst:=hstp (by omega)
    rw [<-hk9] at hst
    have hsM:sM w0 a=wm.toNat+2:=by
      rw [sM,mapX,<-hwm',List.length_append,colsE_len]
      rfl
    have hrow:=mapNf_row qj d w0 a wm a2 hwm' ha2'
    rw [<-hT1,hdL2,<-hcm,<-hqc] at hrow
    obtain ⟨X2,hX2⟩: ∃X,X=E.fs qc [[E.int 1,E.int a2]]:=⟨_,rfl⟩
    rw [<-hX2] at hrow
    have fin: ∀(ds1 ds2 dz':List D) (b1 b1' b2:Nat) (b':Bool) (m':Nat) (env:List (Nat×D)) (o8 o9 o11:O),b1'=0+L.toNat * 8->b1=b1'+0->b2=0+j.toNat * 8->ds1=dy.take b1++ [.int k9]++dy.drop (b1+1)->ds2=ds1.take b2++ [.int 4,.int 0,.int 0,.int 0,.zs,.vec 10 m' 1,.int L,.int 0]++ds1.drop (b2+8)->
        m'=m+([[X2]]:List (List E)).length->dz'=dz.take (m * 1)++([[X2]]:List (List E)).flatten.map .e->subW [(86,.int (j+1)),(85,.int ze),(84,.e (.sl x)),(9,.ref 5 0),(8,.bs 4 0 n 1),(6,.e (.sl xw)),(4,.ref 3 0),(2,.ref 1 0)] env->
        K2 ⟨env, [.ids qc.succ,.box [.e (.sl x),.int rt],.box [.e (.sl xt)],.box [.e (.sl []),.int 0],.box dc,.box [.vec 6 n 8,.int rt],.vec true 8 ds2,.box [.int K,.int T,.int M,.int W,.e (.sl xe),.e (.sl ye),.int L,.int R],o8,o9,.vec b' 1 dz',o11]⟩:=fun ds1 ds2 dz' b1 b1' b2 b' m' env o8 o9 o11 f0 f1 f2 f3 f4 f5 f6 f7=>by
      have h1:=put_kind (out:=out) (i:=L.toNat) (by omega) hdy2 (by omega) f3
      obtain ⟨p1,p2,p3⟩:=put_row (j:=j.toNat) (by rw [List.length_set];omega) h1 (by omega) f4 hrow
      refine goW _ _ _ _ _ _ _ ((Weak.vsub (i:=6) (ds:=ds2) (ds':=ds2.set (b2+4) (.e (.fs 0 []))) rfl (by simp) fun q d1 d2 e1 e2=>?_).trans (Weak.seal (t:=0) (i:=10) (i0:=6) (j0:=b2+5) (es:=T1++ [[X2]]) rfl rfl rfl (by decide) p2 ?_ ?_ ?_)) hst (by rw [List.length_set,List.length_set,hol]) p3 ⟨?_,rfl,rfl,rfl,rfl,rfl,rfl,trivial⟩ f7
      · by_cases hq:q=b2+4
        · subst hq
          rw [p1] at e1
          cases e1
          rw [List.getElem?_set_self (List.getElem?_eq_some_iff.1 p1).1] at e2
          cases e2
          exact sub_zs
        · rw [List.getElem?_set_ne (Ne.symm hq),e1] at e2
          cases e2
          exact Sub.refl
      · rw [List.length_append,f5,hmT]
      · have e:dz'=(T1.flatten++ [X2]).map D.e:=by
          rw [f6,List.take_of_length_le (by omega),hdz,hzT,List.map_append]
          rfl
        have hTl:T1.flatten.length=m * 1:=by rw [<-hzT];exact hzl
        rw [e,List.take_of_length_le (by rw [List.length_map,List.length_append,hTl,f5];simp),List.flatten_append]
        rfl
      · intro e he
        rcases List.mem_append.1 he with he | he
        · exact hT1k e he
        · rw [List.mem_singleton.1 he];rfl
      · show O.ids _=O.ids _
        congr 1
        rw [hsM]
        omega
    have hl1: ∀(ds1:List D) (b1:Nat) (v:D),ds1=dy.take b1++ [v]++dy.drop (b1+1)->b1+1<=n * 8->ds1.length=n * 8:=fun ds1 b1 v e h=>by
      rw [e,List.length_append,List.length_append,List.length_take,List.length_drop]
      simp only [List.length_cons,List.length_nil]
      omega
    have once:True:=trivial
    clear hK3 hT1 hzs hxs hH3 go goW h261 hbb hst hrow hstp hqc hxT
    subst hX2
    cbv
    repeat' first | with_reducible rfl | (simp only [e6,<-ha2];cbv) | with_reducible refine And.intro ?_ ?_ | ((with_reducible intro hcc);first | (cases hcc;done) | skip) | ((with_reducible first | show goC _ _ _ _ _ _ _ _ | show goOps _ _ _ _ _ | show goD _ _ _ _ _ _);cbv) | ((with_reducible show okWr _ _=_);rfl) | (clear once;(with_reducible refine hA.alt _ _ (Or.inl ?_));cbv;(with_reducible refine hA.alt _ _ (Or.inr ⟨0,_,rfl,?_⟩));cbv) | ((with_reducible refine hA.row [[_], [_], [_]] a _ ⟨hin9,fun row hrow=>?_⟩);rw [hg9] at hrow;subst hrow;cbv) | ((with_reducible first | refine hA.fin_pl _ _ _ ?_ | refine hA.len _ _ _ _ _ fun z hz hb=>?_ | refine hA.off _ _ _ _ fun b hb=>?_ | refine hA.plus _ _ _ fun b hb=>?_ | refine hA.rep _ _ _ fun ds m hds hm=>?_ | refine hA.alt _ _ (Or.inl ?_) | refine hA.gb0 true _ ?_ | refine hA.gb0 false _ ?_ | refine hA.gb _ _ fun vb hvb=>?_);cbv) | ((with_reducible first | refine hA.app _ _ _ _ _ ⟨?_,fun zs m hzs hm=>?_⟩ | refine hA.app0 _ _ _ ⟨?_,fun m hm=>?_⟩ | refine hA.st _ _ _ _ _ ⟨?_,fun ds hds=>?_⟩ | refine hA.appv _ _ _ _ _ _ ⟨?_,fun bb m ds hbb hm hds=>?_⟩ | refine hA.vcut _ _ _ _ ⟨?_,fun cs hcs=>?_⟩ | refine hA.appw _ _ _ _ _ _ _ ⟨?_,fun bb m ds hbb hm hds=>?_⟩ | refine hA.sapp _ _ _ ⟨?_,fun sl hsl=>?_⟩);rotate_left;cbv) | (simp only [hA.lits];cbv)
    all_goals try simp only [hA.ar,inR,n_cast,Int.ofNat_eq_natCast,Option.getD_some,Option.getD_none] at *
    all_goals first
      | omega
      | exact fin _ _ _ _ _ _ _ _ _ _ _ _ (by assumption) (by assumption) (by assumption) (by assumption) (by assumption) (by assumption) (by assumption) ⟨.inl rfl,.inl rfl,.inl rfl,.inl rfl,.inl rfl,.inl rfl,.inl rfl,.inl rfl,trivial⟩
      | (have e9:=hl1 _ _ _ hds (by omega);omega)
      | exact ⟨rfl,trivial⟩
      | (simp only [List.length_cons,List.length_nil];omega)
      | (trace_state;fail))
end Go.Proofs.Ytfplalbognalkaa.Ab
/- The program's simplified plans: invalid plans; what the nodes are. -/
namespace Go.Proofs.Ytfplalbognalkaa.Ab
open Go
set_option maxRecDepth 100000 in
set_option maxHeartbeats 4000000 in
theorem n223f (q0:Nat) (rt:Int) (x xt xw:List (List E)) (h239:Plain Try.prog 77 [.agg [.e (.sl x),.int rt],.agg [.e (.sl xt)]] (.tup [.e (.sl xw),.bool false])):
    Proc Try.prog 43 (fun _=> [.agg [.e (.sl x),.int rt],.agg [.e (.sl xt)]]) (fun _=> [.ids q0]) (fun _=> .tup [.agg [.e (.fs 0 []),.int 0],.bool false]) (fun _=> [.ids q0]):=procOf mixed p43 (tup_side (fun t=>rfl) rfl) fun A P hA hP=>(by
  cbv
  repeat' first | with_reducible rfl | with_reducible refine And.intro ?_ ?_ | ((with_reducible intro hcc);first | (cases hcc;done) | skip) | ((with_reducible first | show goC _ _ _ _ _ _ _ _ | show goOps _ _ _ _ _ | show goD _ _ _ _ _ _);cbv) | ((with_reducible show okWr _ _=_);rfl) | ((with_reducible first | refine callK_f hA hP h239 ?_ ?_ ?_);exact rfl;exact rfl;cbv) | ((with_reducible refine hA.finv _ _ _ _ _ ((finv_zsFs (t:=0) rfl ?_).ctx (Plc.tup (Plc.agg Plc.refl rfl) rfl)))) | ((with_reducible first | refine hA.fin_pl _ _ _ ?_ | refine hA.len _ _ _ _ _ fun z hz hb=>?_ | refine hA.off _ _ _ _ fun b hb=>?_ | refine hA.plus _ _ _ fun b hb=>?_ | refine hA.rep _ _ _ fun ds m hds hm=>?_ | refine hA.alt _ _ (Or.inl ?_) | refine hA.gb0 true _ ?_ | refine hA.gb0 false _ ?_ | refine hA.gb _ _ fun vb hvb=>?_);cbv) | ((with_reducible first | refine hA.app _ _ _ _ _ ⟨?_,fun zs m hzs hm=>?_⟩ | refine hA.app0 _ _ _ ⟨?_,fun m hm=>?_⟩ | refine hA.st _ _ _ _ _ ⟨?_,fun ds hds=>?_⟩ | refine hA.appv _ _ _ _ _ _ ⟨?_,fun bb m ds hbb hm hds=>?_⟩ | refine hA.vcut _ _ _ _ ⟨?_,fun cs hcs=>?_⟩ | refine hA.appw _ _ _ _ _ _ _ ⟨?_,fun bb m ds hbb hm hds=>?_⟩ | refine hA.sapp _ _ _ ⟨?_,fun sl hsl=>?_⟩);rotate_left;cbv) | (simp only [hA.lits];cbv)
  all_goals try simp only [hA.ar,inR,n_cast,Int.ofNat_eq_natCast,Option.getD_some,Option.getD_none] at *
  all_goals first
    | omega
    | exact Nat.le_refl _
    | (trace_state;fail))
theorem stepN_len (ask:Fd->Int) (w:Int->Int) (out:List Nf) (q j:Nat) (d:Fd):(stepN ask w out q j d).1.length=out.length:=by
  unfold stepN
  split
  · simp
  · rfl
theorem runN_ok {ask:Fd->Int} {w:Int->Int} {n:Nat} : ∀(l:List Fd) (out:List Nf) (q j:Nat),out.length=n->NumOk out q->(∀d∈l,d.L.toNat<n)->
    (runN ask w (out,q) j l).1.map Nf.d=runI ask w (out.map Nf.d) j l/\NumOk (runN ask w (out,q) j l).1 (runN ask w (out,q) j l).2/\(runN ask w (out,q) j l).1.length=n
  | [],out,q,j,hn,h,_=>⟨rfl,h,hn⟩
  | d::l,out,q,j,hn,h,hL=>by
    have hd:=hL d (by simp)
    have h1:=stepN_d ask w out q j d (by omega)
    have h2:=stepN_ok (ask:=ask) (w:=w) (j:=j) h (show d.L.toNat<out.length by omega)
    have h3:=stepN_len ask w out q j d
    obtain ⟨s2,hs⟩: ∃s,s=stepN ask w out q j d:=⟨_,rfl⟩
    rw [<-hs] at h1 h2 h3
    obtain ⟨o2,q2⟩:=s2
    have ih:=runN_ok (ask:=ask) (w:=w) l o2 q2 (j+1) (by simpa using h3.trans hn) h2 (fun e he=>hL e (by simp [he]))
    rw [runN,runI,<-hs]
    simp only at h1 ⊢
    rw [<-h1]
    exact ih
end Go.Proofs.Ytfplalbognalkaa.Ab
/- The program's simplified plans: what it hands back for a valid plan. -/
namespace Go.Proofs.Ytfplalbognalkaa.Ab
open Go
theorem runI_congr {ask ask':Fd->Int} (w:Int->Int): ∀(l out:List Fd) (j:Nat),(∀d∈l,ask d=ask' d)->runI ask w out j l=runI ask' w out j l
  | [],_,_,_=>rfl
  | d::l,out,j,h=>by
    rw [runI,runI,stepI,stepI,h d (by simp)]
    exact runI_congr w l _ _ fun e he=>h e (by simp [he])
theorem n223 (q0:Nat) (ns:List Fd) (rt:Int) (x:List (List E)) (hx:x=ns.map fdr) (ts:List Tb) (xt:List (List E)) (hxt:xt=ts.map tbr) (hxl:x.length<=1048576) (hlen: ∀d∈ns,d.Ex.length<=1048576/\d.Exs.length<=1048576/\ ∀e∈d.Exs,e.length<=1048576)
    (ws:List Int) (xw:List (List E)) (hxw:xw=ws.map ir) (h239:Plain Try.prog 77 [.agg [.e (.sl x),.int rt],.agg [.e (.sl xt)]] (.tup [.e (.sl xw),.bool true])) (fok:Fok2 ns ws rt)
    (H: ∀(j:Nat) d,ns[j]?=some d->0<askS ns (wOf ws) rt d->0<=d.L/\d.L<j):
    ∃nfs qf,nfs.map Nf.d=simS (askS ns (wOf ws) rt) (wOf ws) ns/\NumOk nfs qf/\
      Proc Try.prog 43 (fun _=> [.agg [.e (.sl x),.int rt],.agg [.e (.sl xt)]]) (fun _=> [.ids q0]) (fun _=> .tup [.agg [.e (eFs qf nfs),.int rt],.bool true]) (fun _=> [.ids (qf+1)]):=by
  obtain ⟨s,hs⟩: ∃s,s=runN (askI ns (wOf ws) rt) (wOf ws) (numL nF sF q0 ns,q0+sumN sF ns) 0 ns:=⟨_,rfl⟩
  have hn:=numF_ok q0 ns
  obtain ⟨h1,h2,_⟩:=runN_ok (ask:=askI ns (wOf ws) rt) (w:=wOf ws) (n:=ns.length) ns (numL nF sF q0 ns) (q0+sumN sF ns) 0 (numL_len _ _ _ _) ⟨hn.1,fun n h=>(hn.2 n h).2⟩ (fun d hd=>by
    obtain ⟨i,hi⟩:=List.mem_iff_getElem?.1 hd
    have:=fok.a.L i d hi
    omega)
  rw [<-hs] at h1 h2
  rw [numF_d,runI_congr (ask':=askS ns (wOf ws) rt) _ _ _ _ (fun d hd=>ask_eq hd (fok.ex d hd)),run_sim H] at h1
  exact ⟨s.1,s.2,h1,h2,n223t q0 ns rt x hx ts xt hxt hxl hlen ws xw hxw h239 fok s.1 s.2 hs⟩
end Go.Proofs.Ytfplalbognalkaa.Ab
/- Sizes of tables. -/
namespace Go.Proofs.Ytfplalbognalkaa.Ab
open Go
theorem sz_in' {ts:List Tb} (h:cTS ts<=1048576):ts.length<=1048576/\ ∀t∈ts,t.2.2.length<=1048576/\ ∀r∈t.2.2,r.length<=1048576:=by
  have h0:=sumC_nonneg cT_nonneg ts
  refine ⟨by unfold cTS at h;omega,fun t ht=>?_⟩
  have h1:=sz_row ht
  have h2:=sumC_nonneg cV_nonneg t.2.2
  unfold cT cSS at h1
  refine ⟨by omega,fun r hr=>?_⟩
  have h3:(r.length:Int)<=_:=sumC_mem cV_nonneg hr
  omega
end Go.Proofs.Ytfplalbognalkaa.Ab
/- The law of FlatOk. -/
namespace Go.Proofs.Ytfplalbognalkaa.Ab
open Go
theorem flat_in {ns:List Fd} (h:cFS ns<=1048576):ns.length<=1048576/\ ∀d∈ns,d.Ex.length<=1048576/\d.Exs.length<=1048576/\ ∀e∈d.Exs,e.length<=1048576:=by
  have h0:=sumC_nonneg cFd_nonneg ns
  refine ⟨by unfold cFS at h;omega,fun d hd=>?_⟩
  have h1:=sumC_mem cFd_nonneg hd
  have h2:cFd d=cO d.Ex+cOS d.Exs:=rfl
  have h3:=cO_nonneg d.Ex
  have h4:=cOS_nonneg d.Exs
  have h5:cO d.Ex=d.Ex.length:=rfl
  have h6:cOS d.Exs=d.Exs.length+sumC cO d.Exs:=rfl
  have h7:=sumC_nonneg cO_nonneg d.Exs
  unfold cFS at h
  refine ⟨by omega,by omega,fun e he=>?_⟩
  have h8:=sumC_mem cO_nonneg he
  have h9:cO e=e.length:=rfl
  omega
theorem runF_len {nt:Int} {cols:Int->Int} : ∀ {l:List Fd} {ws:List Int},(runF nt cols l ws).2=true->(runF nt cols l ws).1.length=ws.length+l.length
  | [],ws,_=>by simp [runF]
  | d::r,ws,h=>by
    unfold runF at h ⊢
    cases hs:stS nt cols ws d with
    | none=>rw [hs] at h;cases h
    | some w=>
      rw [hs] at h
      have:=runF_len (l:=r) (ws:=ws++ [w]) h
      simp only
      rw [this];simp;omega
end Go.Proofs.Ytfplalbognalkaa.Ab
/- What holds of a valid plan. -/
namespace Go.Proofs.Ytfplalbognalkaa.Ab
open Go
def FQ (j:Nat) (d:Fd):Prop:=plc (one d.K) d.L j=true/\plc (two d.K) d.R j=true/\(d.K=3-> ∃c,exOk d.Ex c=true)
theorem stS_some {nt:Int} {cols:Int->Int} {ws:List Int} {d:Fd} {w:Int} (h:stS nt cols ws d=some w):(0<=w/\w<=200)/\FQ ws.length d:=by
  unfold stS at h
  split at h
  · rename_i hf
    simp only at h
    split at h
    · cases h
    · rename_i hw
      cases h
      simp only [fldS,Bool.and_eq_true] at hf
      refine ⟨by omega,hf.2.2.2.1,hf.2.2.2.2.1,fun hk=>?_⟩
      refine Classical.byContradiction fun hn=>hw (.inl ?_)
      have hu:usS d.K d.M=true:=by rw [hk];rfl
      have hm:mat d.K=false:=by rw [hk];rfl
      have hx:exOk d.Ex (if d.K=3 then at0 (one d.K) ws d.L else at0 (two d.K) ws d.R)=false:=Bool.eq_false_iff.2 fun e=>hn ⟨_,e⟩
      unfold widS
      rw [if_neg (by omega),if_neg (by omega),if_neg (by rw [hm];simp),if_pos ⟨hu,hx⟩]
      decide
  · cases h
theorem runF_all {nt:Int} {cols:Int->Int} : ∀ {l:List Fd} {ws:List Int},(runF nt cols l ws).2=true->(∀w∈ws,0<=w/\w<=200)->(∀w∈(runF nt cols l ws).1,0<=w/\w<=200)/\ ∀(j:Nat) d,l[j]?=some d->FQ (ws.length+j) d
  | [],ws,_,hw=>⟨hw,fun j d h=>by simp at h⟩
  | e::r,ws,h,hw=>by
    unfold runF at h ⊢
    cases hs:stS nt cols ws e with
    | none=>rw [hs] at h;cases h
    | some w=>
      rw [hs] at h
      obtain ⟨h1,h2⟩:=stS_some hs
      obtain ⟨i1,i2⟩:=runF_all (l:=r) (ws:=ws++ [w]) h (fun v hv=>by
        rcases List.mem_append.1 hv with hv | hv
        · exact hw v hv
        · rw [List.mem_singleton.1 hv];exact h1)
      refine ⟨i1,fun j d hd=>?_⟩
      cases j with
      | zero=>simp at hd;rw [<-hd];exact h2
      | succ j=>
        have:=i2 j d (by simpa using hd)
        rw [List.length_append] at this
        rw [show ws.length+(j+1)=ws.length+ [w].length+j by simp;omega]
        exact this
theorem plc_bnd {on:Bool} {p:Int} {j n:Nat} (h:plc on p j=true) (hj:j<n):0<=p/\p<n:=by
  unfold plc at h
  split at h <;>(have:=of_decide_eq_true h;omega)
theorem fok_of {nt:Int} {cols:Int->Int} {ns:List Fd} {ws:List Int} {rt:Int} (h:runF nt cols ns []=(ws,true)) (hr:0<=rt/\rt<ns.length):Fok2 ns ws rt/\ ∀(j:Nat) d,ns[j]?=some d->0<askS ns (wOf ws) rt d->0<=d.L/\d.L<j:=by
  have h2:(runF nt cols ns []).2=true:=by rw [h]
  have hl:=runF_len h2
  obtain ⟨h3,h4⟩:=runF_all h2 (fun w hw=>by cases hw)
  rw [h] at hl h3
  have h4: ∀(j:Nat) d,ns[j]?=some d->FQ j d/\j<ns.length:=fun j d hd=>by
    have:=h4 j d hd
    rw [List.length_nil,Nat.zero_add] at this
    exact ⟨this,(List.getElem?_eq_some_iff.1 hd).1⟩
  refine ⟨⟨⟨by simpa using hl,h3,fun j d hd=>plc_bnd (h4 j d hd).1.1 (h4 j d hd).2⟩,fun j d hd _=>plc_bnd (h4 j d hd).1.2.1 (h4 j d hd).2,hr,fun d hd=>?_⟩,fun j d hd ha=>?_⟩
  · obtain ⟨j,hj⟩:=List.mem_iff_getElem?.1 hd
    exact (h4 j d hj).1.2.2
  · have hk:=(askS_pos ha).1
    have:=(h4 j d hd).1.1
    rw [show one d.K=true by rw [hk];rfl,plc,if_pos rfl] at this
    exact of_decide_eq_true this
end Go.Proofs.Ytfplalbognalkaa.Ab
/- How many marks the nodes take. -/
namespace Go.Proofs.Ytfplalbognalkaa.Ab
open Go
theorem cXs_le: ∀l:List Nx,sumC cX l=2 * sumC cO (l.map Prod.snd)
  | []=>rfl
  | x::l=>by
    simp only [sumC,List.map_cons,cXs_le l,cX_len,cO]
    omega
theorem cF_le (n:Nf):cF n<=6+2 * cFd n.d:=by
  have h1:=cXs_le n.Exs.2
  have h2:cFd n.d=cO n.Ex.2+cOS (n.Exs.2.map Prod.snd):=rfl
  have h3:cOS (n.Exs.2.map Prod.snd)=(n.Exs.2.map Prod.snd).length+sumC cO (n.Exs.2.map Prod.snd):=rfl
  have h4:cO n.Ex.2=n.Ex.2.length:=rfl
  have h5:cXs n.Exs=sumC cX n.Exs.2:=rfl
  have h6:=cX_len n.Ex
  unfold cF
  omega
theorem cFs_le: ∀L:List Nf,sumC cF L<=6 * L.length+2 * sumC cFd (L.map Nf.d)
  | []=>by simp [sumC]
  | n::L=>by
    have h1:=cF_le n
    have h2:=cFs_le L
    simp only [sumC,List.map_cons,List.length_cons]
    omega
theorem sumO_cols: ∀l:List Nat,sumC cO (l.map colE)=l.length
  | []=>rfl
  | a::l=>by
    simp only [sumC,List.map_cons,sumO_cols l,List.length_cons]
    show (1:Int)+_=_
    omega
theorem sumC_app {α:Type} (c:α->Int): ∀a b:List α,sumC c (a++b)=sumC c a+sumC c b
  | [],b=>by simp [sumC]
  | x::a,b=>by simp only [List.cons_append,sumC,sumC_app c a b];omega
theorem cFd_map (d:Fd) (w a:Int) (hw:w<=200):cFd (mapN d w a)<=400/\(mapN d w a).Exs.length<=200:=by
  have h1:sumC cO (mapX w a)=(w-1).toNat+1:=by
    rw [mapX,sumC_app,colsE,sumO_cols,List.length_range]
    rfl
  have h2:(mapX w a).length=(w-1).toNat+1:=by
    rw [mapX,List.length_append,colsE_len]
    rfl
  have h3:cFd (mapN d w a)=cO []+((mapX w a).length+sumC cO (mapX w a)):=rfl
  have h4:cO []=0:=rfl
  have h5:(mapN d w a).Exs=mapX w a:=rfl
  rw [h5]
  omega
theorem sim_le {ask:Fd->Int} {w:Int->Int} (hw: ∀i,w i<=200) (ns:List Fd) (d:Fd) (i:Nat):cFd (nodS ask w ns i d)<=400+cFd d/\(nodS ask w ns i d).Exs.length<=max 200 d.Exs.length:=by
  have h0:=cFd_nonneg d
  have e1:cFd (nodS ask w ns i d)=cFd (baseS ask w d):=rfl
  have e2:(nodS ask w ns i d).Exs=(baseS ask w d).Exs:=rfl
  rw [e1,e2]
  unfold baseS
  split
  · have:=cFd_map d (w d.L) (ask d) (hw _)
    omega
  · omega
theorem sum_le2 {f:Nat->Fd->Fd} (h: ∀i d,cFd (f i d)<=400+cFd d): ∀(l:List Fd) (i:Nat),sumC cFd ((l.mapIdx fun j=>f (j+i)))<=400 * l.length+sumC cFd l
  | [],i=>by simp [sumC]
  | d::l,i=>by
    have h1:=h (0+i) d
    have h2:=sum_le2 h l (i+1)
    rw [List.mapIdx_cons]
    simp only [sumC,List.length_cons]
    have h3:(List.mapIdx (fun j=>f (j+1+i)) l)=List.mapIdx (fun j=>f (j+(i+1))) l:=by
      congr 1
      funext j
      rw [show j+1+i=j+(i+1) by omega]
    rw [h3]
    omega
theorem sims_le {ask:Fd->Int} {w:Int->Int} (hw: ∀i,w i<=200) (ns:List Fd):sumC cFd (simS ask w ns)<=400 * ns.length+sumC cFd ns:=
  sum_le2 (f:=nodS ask w ns) (fun i d=>(sim_le hw ns d i).1) ns 0
end Go.Proofs.Ytfplalbognalkaa.Ab
/- Structs that hold a tree: what they are as values. -/
namespace Go.Proofs.Ytfplalbognalkaa.Ab
open Go
theorem hd_agg1 {i:Nat} (w:World) (G:Gh) (h:Hp) (v:Value) (r:Rv w G h v (.agg [.rv i])):v= .agg #[G.rv i]:=by
  cases r with
  | @agg cs _ hl h1 hr=>
    have hl':cs.size=1:=by simpa using hl
    have a0:cs[0]=G.rv i:=NS.rv_id (hr 0 cs[0] (.rv i) (by simp [hl']) rfl)
    congr 1
    refine Array.ext (by simp [hl']) fun j hj _=>?_
    have:j=0:=by omega
    subst this
    exact a0
theorem hd_agg2 {i:Nat} {rt:Int} (w:World) (G:Gh) (h:Hp) (v:Value) (r:Rv w G h v (.agg [.rv i,.int rt])):v= .agg #[G.rv i,.int .i64 rt]:=by
  cases r with
  | @agg cs _ hl h1 hr=>
    have hl':cs.size=2:=by simpa using hl
    have a0:cs[0]=G.rv i:=NS.rv_id (hr 0 cs[0] (.rv i) (by simp [hl']) rfl)
    have a1:cs[1]= .int .i64 rt:=by
      have:=rv_e (hr 1 cs[1] (.int rt) (by simp [hl']) rfl)
      generalize cs[1]=c at this
      cases this with
      | v _=>rfl
    congr 1
    refine Array.ext (by simp [hl']) fun j hj _=>?_
    have:j=0\/j=1:=by omega
    rcases this with rfl | rfl
    · exact a0
    · exact a1
end Go.Proofs.Ytfplalbognalkaa.Ab
/- The numbers in copied tables. -/
namespace Go.Proofs.Ytfplalbognalkaa.Ab
open Go
theorem t_nums (q:Nat) (t:Tb): ∃ns,(eRs (nT q t).2.2).nums=some ns/\ns.Nodup/\ ∀k∈ns,q<=k/\k<q+sT t:=by
  obtain ⟨ns,h1,h2⟩:=NS.nums_rows (NS.nums q t.2.2)
  rw [NS.nums_fst] at h2
  have h3: ∀k∈ns,q<=k/\k<q+t.2.2.length:=fun k hk=>by
    have:=h2.subset hk
    rw [List.mem_range'_1] at this
    exact this
  have h4:(eRs (nT q t).2.2)= .fs (q+t.2.2.length) ((NS.nums q t.2.2).map NS.nrow):=rfl
  rw [h4]
  by_cases hn:(NS.nums q t.2.2).map NS.nrow= []
  · rw [hn]
    exact ⟨[],rfl,List.nodup_nil,fun k hk=>by cases hk⟩
  · refine ⟨(q+t.2.2.length)::ns,by rw [NS.nums_ne hn,h1];rfl,List.nodup_cons.2 ⟨fun h=>?_,(List.nodup_range' (s:=q)).sublist h2⟩,fun k hk=>?_⟩
    · have:=h3 _ h;omega
    · unfold sT
      rcases List.mem_cons.1 hk with rfl | hk
      · omega
      · have:=h3 k hk;omega
theorem ts_nums (q:Nat): ∀ts:List Tb,∃ns,numss ((numL nT sT q ts).map ntr)=some ns/\ns.Nodup/\ ∀k∈ns,q<=k/\k<q+sumN sT ts
  | []=>⟨[],rfl,List.nodup_nil,fun k hk=>by cases hk⟩
  | t::ts=>by
    obtain ⟨a,a1,a2,a3⟩:=t_nums q t
    obtain ⟨b,b1,b2,b3⟩:=ts_nums (q+sT t) ts
    refine ⟨a++b,?_,List.nodup_append.2 ⟨a2,b2,fun x hx y hy=>?_⟩,fun k hk=>?_⟩
    · simp only [numL,List.map_cons,numss,numsr,a1,b1,E.nums,List.nil_append,List.append_nil]
    · have:=a3 x hx;have:=b3 y hy;omega
    · simp only [sumN]
      rcases List.mem_append.1 hk with hk | hk
      · have:=a3 k hk;omega
      · have:=b3 k hk;omega
theorem eTs_nums (q i:Nat) (ts:List Tb) (hi:q+sumN sT ts<=i): ∃ns,(eTs i (numL nT sT q ts)).nums=some ns/\ns.Nodup:=by
  obtain ⟨ns,h1,h2,h3⟩:=ts_nums q ts
  unfold eTs
  by_cases hn:(numL nT sT q ts).map ntr= []
  · rw [hn]
    exact ⟨[],rfl,List.nodup_nil⟩
  · refine ⟨i::ns,by rw [NS.nums_ne hn,h1];rfl,List.nodup_cons.2 ⟨fun h=>?_,h2⟩⟩
    have:=h3 i h;omega
theorem eTs_un (i:Nat) (l:List Nt):(eTs i l).un= .sl (l.map fun n=>tbr n.t):=by
  rw [eTs,E.un,unss_map,List.map_map]
  congr 1
  refine List.map_congr_left fun r _=>?_
  have:(eRs r.2.2).un= .sl (r.2.2.2.map fun r=>rsr r.2):=NS.un_rows _ _
  simp only [Function.comp,List.map_cons,List.map_nil,this,Nt.t,tbr]
  rw [List.map_map]
  rfl
theorem nT_t (q:Nat) (t:Tb):(nT q t).t=t:=by
  show (t.1,t.2.1,(NS.nums q t.2.2).map Prod.snd)=t
  rw [NS.nums_snd]
theorem numT_t (q:Nat): ∀ts:List Tb,(numL nT sT q ts).map Nt.t=ts
  | []=>rfl
  | t::ts=>by rw [numL,List.map_cons,nT_t,numT_t _ ts]
theorem cNts_le (q:Nat): ∀ts:List Tb,sumC cNt (numL nT sT q ts)<=2 * (ts.length+sumC (fun t=>sumC cV t.2.2) ts)
  | []=>by simp [numL,sumC]
  | t::ts=>by
    have h1:=cNts_le (q+sT t) ts
    have h2:NS.cnt (NS.nums q t.2.2)<=2 * sumC cV t.2.2:=NS.cnt_sum _ _ (NS.nums_snd q t.2.2)
    have h3:cNt (nT q t)=2+NS.cnt (NS.nums q t.2.2):=rfl
    simp only [numL,sumC,List.length_cons]
    omega
end Go.Proofs.Ytfplalbognalkaa.Ab
/- Simplify, by the specification and by the program: one contract. -/
namespace Go.Proofs.Ytfplalbognalkaa.Ab
open Go
theorem sim_both (ns:List Fd) (rt:Int) (x:List (List E)) (hx:x=ns.map fdr) (ts:List Tb) (xt:List (List E)) (hxt:xt=ts.map tbr) (hxl:x.length<=1048576) (hlen: ∀d∈ns,d.Ex.length<=1048576/\d.Exs.length<=1048576/\ ∀e∈d.Exs,e.length<=1048576) (hsz:cTS ts<=1048576) (hsf:cFS ns<=1048576):
    ∃(b:Bool) (os:List Fd) (ro:Int) (L:List Nf) (ql qe:Nat),
      Plain Try.prog 42 [.agg [.e (.sl x),.int rt],.agg [.e (.sl xt)]] (.tup [.agg [.e (.sl (os.map fdr)),.int ro],.bool b])/\
      Proc Try.prog 43 (fun _=> [.agg [.e (.sl x),.int rt],.agg [.e (.sl xt)]]) (fun _=> [.ids 0]) (fun _=> .tup [.agg [.e (eFs ql L),.int ro],.bool b]) (fun _=> [.ids qe])/\
      L.map Nf.d=os/\(∃ns,(eFs ql L).nums=some ns/\ns.Nodup)/\L.length<=1048576/\(∀n∈L,n.Exs.2.length<=1048576)/\sumC cF L<=1000000000/\(ro=rt\/ro=0):=by
  have hel:x.length=ns.length:=by rw [hx];simp
  obtain ⟨⟨ws0,b0⟩,hr0⟩: ∃p,p=runF ts.length (colsOf ts) ns []:=⟨_,rfl⟩
  have hwl:b0=true->ws0.length=ns.length:=fun h=>by
    have h1:(runF ts.length (colsOf ts) ns []).2=true:=by rw [<-hr0];exact h
    have:=runF_len h1
    rw [<-hr0] at this
    simpa using this
  obtain ⟨b,hb⟩: ∃b,b=((!decide ((x.length:Int)<1)&&(!decide (8000<(x.length:Int))&&(!decide (rt<0)&&(!decide ((x.length:Int)<=rt)&&dbOk ts))))&&b0):=⟨_,rfl⟩
  have h239:=ok77 ns rt x hx ts xt hxt hxl hlen hsz ws0 b0 hr0.symm b hb _ rfl
  cases b with
  | false=>
    have h222:=ok42 ns rt x hx ts xt hxt hxl hlen hsz ws0 b0 hr0.symm false hb hwl [] 0 (fun h=>by cases h) (fun _=>⟨rfl,rfl⟩)
    exact ⟨false, [],0, [],0,0,h222,n223f 0 rt x xt _ h239,rfl,⟨[],rfl,List.nodup_nil⟩,by simp,fun n h=>(by cases h),by simp [sumC],.inr rfl⟩
  | true=>
    have hbt:=hb.symm
    simp only [Bool.and_eq_true,Bool.not_eq_true',decide_eq_false_iff_not] at hbt
    obtain ⟨⟨b1,b2,b3,b4,_⟩,b5⟩:=hbt
    subst b5
    obtain ⟨fok,H⟩:=fok_of hr0.symm (rt:=rt) (by omega)
    have h222:=ok42 ns rt x hx ts xt hxt hxl hlen hsz ws0 true hr0.symm true hb hwl _ rt (fun _=>⟨fok.a,rfl,rfl⟩) (fun h=>by cases h)
    obtain ⟨nfs,qf,e1,e2,e3⟩:=n223 0 ns rt x hx ts xt hxt hxl hlen ws0 _ rfl h239 fok H
    have hll:nfs.length=ns.length:=by
      have:=congrArg List.length e1
      rwa [List.length_map,simS_len] at this
    have hw: ∀i,wOf ws0 i<=200:=fun i=>by
      unfold wOf
      rw [List.getD]
      cases h:ws0[i.toNat]? with
      | none=>simp
      | some v=>exact (fok.a.rng v (List.mem_of_getElem? h)).2
    have hs0:=sumC_nonneg cFd_nonneg ns
    unfold cFS at hsf
    refine ⟨true,_,rt,nfs,qf,qf+1,h222,e3,e1,eFs_nums e2 (Nat.le_refl _),by omega,fun n hn=>?_,?_,.inl rfl⟩
    · obtain ⟨j,hj⟩:=List.mem_iff_getElem?.1 hn
      have hjl:j<ns.length:=by rw [<-hll];exact (List.getElem?_eq_some_iff.1 hj).1
      have h1:(simS (askS ns (wOf ws0) rt) (wOf ws0) ns)[j]?=some n.d:=by rw [<-e1,List.getElem?_map,hj];rfl
      rw [simS_get _ _ _ _ ns[j] (List.getElem?_eq_getElem hjl)] at h1
      have h2:=(sim_le (ask:=askS ns (wOf ws0) rt) hw ns ns[j] j).2
      rw [Option.some.inj h1] at h2
      have h3:n.d.Exs.length=n.Exs.2.length:=by simp [Nf.d]
      have h4:=(hlen _ (List.getElem_mem hjl)).2.1
      omega
    · have h1:=cFs_le nfs
      have h2:=sims_le (ask:=askS ns (wOf ws0) rt) hw ns
      rw [e1] at h1
      omega
end Go.Proofs.Ytfplalbognalkaa.Ab
/- The law of Simplify, walked. -/
namespace Go.Proofs.Ytfplalbognalkaa.Ab
open Go
def c9:F:=⟨119, [(.tmp 4)],(.seq (.reg [ZA 2 (.box 0),ZA 3 (.box 1),ZA 4 (.mov (.c (.bool false)))]) (.seq (.reg [ZA 5 (.mov (.c (.int 1048576)))]) (.seq (.reg [ZA 17 (.load true 2 2),ZA 18 (.mov 5),ZA 19 (.call 27 [17,18]),ZA 5 (.mov 19)]) (.seq (.seq (.reg [ZA 20 (.mov 5),ZA 21 (.bin .lss 20 (.c (.int 0)))]) (.cond 21 (.seq (.reg [ZA 4 (.mov (.c (.bool true)))]) .ret) .skip)) (.seq (.reg [ZA 22 (.load true 1 3),ZA 23 (.mov 5),ZA 24 (.call 28 [22,23]),ZA 5 (.mov 24)]) (.seq (.seq (.reg [ZA 25 (.mov 5),ZA 26 (.bin .lss 25 (.c (.int 0)))]) (.cond 26 (.seq (.reg [ZA 4 (.mov (.c (.bool true)))]) .ret) .skip)) (.seq (.dreg [⟨ZA 28 (.load true 2 2), [], [2]⟩,⟨ZA 29 (.call 30 [28]), [], [28]⟩,⟨ZA 30 (.load true 1 3), [0,1], [3]⟩,⟨ZA 31 (.call 31 [30]), [], [30]⟩,⟨ZA 32 (.call 42 [29,31]), [], [29,31]⟩,⟨ZA 27 (.mov 32), [], [32]⟩,⟨ZA 33 (.ext 0 27), [], [27]⟩,⟨ZA 34 (.ext 1 27), [6], [27]⟩,⟨ZA 6 (.alloc [(.e (.sl [])),(.int 0)]), [0,1,2,3,4,5,6,7], []⟩,⟨ZN (.store true 2 6 33), [7], [6,33]⟩,⟨ZA 7 (.mov 34), [], [34]⟩]) (.seq (.reg [ZA 35 (.load true 2 2),ZA 36 (.call 30 [35]),ZA 8 (.alloc [(.e (.sl [])),(.int 0)]),ZN (.store true 2 8 36)]) (.seq (.reg [ZA 37 (.load true 1 3),ZA 38 (.call 31 [37]),ZA 9 (.alloc [(.e (.sl []))]),ZN (.store true 1 9 38)]) (.seq (.reg [ZA 40 (.load true 2 8),ZA 41 (.load true 1 9),ZA 42 (.call 43 [40,41]),ZA 39 (.mov 42),ZA 43 (.ext 0 39),ZA 44 (.ext 1 39),ZA 10 (.alloc [(.e (.sl [])),(.int 0)]),ZN (.store true 2 10 43),ZA 11 (.mov 44)]) (.seq (.seq (.reg [ZA 45 (.load true 2 10),ZA 46 (.load true 2 6),ZA 47 (.call 33 [45,46]),ZA 48 (.un .not 47),ZA 49 (.mov 48),ZF 50 49 (.mov 11),ZF 51 49 (.mov 7),ZF 52 49 (.binb .neq 50 51),ZA 53 (.pick 49 (.c (.bool true)) 52)]) (.cond 53 (.seq (.reg [ZA 4 (.mov (.c (.bool false)))]) .ret) .skip)) (.seq (.seq (.dreg [⟨ZA 54 (.load true 2 8), [], [8]⟩,⟨ZA 55 (.load true 2 2), [0], [2]⟩,⟨ZA 56 (.call 30 [55]), [0], [55]⟩,⟨ZA 57 (.call 33 [54,56]), [], [54,56]⟩,⟨ZA 58 (.un .not 57), [], [57]⟩]) (.cond 58 (.seq (.reg [ZA 4 (.mov (.c (.bool false)))]) .ret) .skip)) (.seq (.seq (.dreg [⟨ZA 59 (.load true 1 9), [], [9]⟩,⟨ZA 60 (.load true 1 3), [0], [3]⟩,⟨ZA 61 (.call 31 [60]), [0], [60]⟩,⟨ZA 62 (.call 34 [59,61]), [], [59,61]⟩,⟨ZA 63 (.un .not 62), [], [62]⟩]) (.cond 63 (.seq (.reg [ZA 4 (.mov (.c (.bool false)))]) .ret) .skip)) (.seq (.reg [ZA 12 (.mov (.c (.int 1)))]) (.seq (.reg [ZA 64 (.load true 2 8),ZA 65 (.mov 12),ZA 66 (.call 44 [64,65]),ZA 12 (.mov 66)]) (.seq (.reg [ZA 67 (.load true 1 9),ZA 68 (.mov 12),ZA 69 (.call 45 [67,68]),ZA 12 (.mov 69)]) (.seq (.seq (.reg [ZA 70 (.mov 12),ZA 71 (.bin .lss 70 (.c (.int 0))),ZA 72 (.mov 71),ZF 73 72 (.load true 2 10),ZF 74 72 (.load true 2 6),ZF 75 72 (.call 33 [73,74]),ZF 76 72 (.un .not 75),ZA 77 (.pick 72 (.c (.bool true)) 76),ZA 78 (.mov 77),ZF 79 78 (.mov 11),ZF 80 78 (.mov 7),ZF 81 78 (.binb .neq 79 80),ZA 82 (.pick 78 (.c (.bool true)) 81)]) (.cond 82 (.seq (.reg [ZA 4 (.mov (.c (.bool false)))]) .ret) .skip)) (.seq (.reg [ZA 13 (.mov (.c (.int 1)))]) (.seq (.reg [ZA 83 (.load true 2 10),ZA 84 (.mov 13),ZA 85 (.call 44 [83,84]),ZA 13 (.mov 85)]) (.seq (.reg [ZA 14 (.mov (.c (.int 1)))]) (.seq (.reg [ZA 86 (.load true 2 10),ZA 87 (.mov 14),ZA 88 (.call 46 [86,87]),ZA 14 (.mov 88)]) (.seq (.seq (.reg [ZA 89 (.mov 14),ZA 90 (.bin .lss 89 (.c (.int 0)))]) (.cond 90 (.seq (.reg [ZA 4 (.mov (.c (.bool false)))]) .ret) .skip)) (.seq (.seq (.reg [ZA 91 (.mov 14),ZA 92 (.mov 13),ZA 93 (.bin .neq 91 92)]) (.cond 93 (.seq (.reg [ZA 4 (.mov (.c (.bool false)))]) .ret) .skip)) (.seq (.dreg [⟨ZA 95 (.load true 2 2), [], [2]⟩,⟨ZA 96 (.call 30 [95]), [], [95]⟩,⟨ZA 97 (.load true 1 3), [0,1], [3]⟩,⟨ZA 98 (.call 31 [97]), [], [97]⟩,⟨ZA 99 (.call 43 [96,98]), [], [96,98]⟩,⟨ZA 94 (.mov 99), [], [99]⟩,⟨ZA 100 (.ext 0 94), [], [94]⟩,⟨ZA 101 (.ext 1 94), [6], [94]⟩,⟨ZA 15 (.alloc [(.e (.sl [])),(.int 0)]), [0,1,2,3,4,5,6,7], []⟩,⟨ZN (.store true 2 15 100), [7], [15,100]⟩,⟨ZA 16 (.mov 101), [], [101]⟩]) (.seq (.seq (.reg [ZA 102 (.load true 2 15),ZA 103 (.load true 2 6),ZA 104 (.call 33 [102,103]),ZA 105 (.un .not 104),ZA 106 (.mov 105),ZF 107 106 (.mov 16),ZF 108 106 (.mov 7),ZF 109 106 (.binb .neq 107 108),ZA 110 (.pick 106 (.c (.bool true)) 109)]) (.cond 110 (.seq (.reg [ZA 4 (.mov (.c (.bool false)))]) .ret) .skip)) (.seq (.reg [ZA 14 (.mov (.c (.int 1)))]) (.seq (.reg [ZA 111 (.load true 2 10),ZA 112 (.mov 14),ZA 113 (.call 46 [111,112]),ZA 14 (.mov 113)]) (.seq (.seq (.reg [ZA 114 (.mov 14),ZA 115 (.bin .lss 114 (.c (.int 0)))]) (.cond 115 (.seq (.reg [ZA 4 (.mov (.c (.bool false)))]) .ret) .skip)) (.seq (.seq (.reg [ZA 116 (.mov 14),ZA 117 (.mov 13),ZA 118 (.bin .neq 116 117)]) (.cond 118 (.seq (.reg [ZA 4 (.mov (.c (.bool false)))]) .ret) .skip)) (.seq (.reg [ZA 4 (.mov (.c (.bool true)))]) .ret))))))))))))))))))))))))))))))⟩
theorem p9:prepF Try.prog 9=some c9:=by kernel_rfl
theorem sumC_mono {α:Type} {f g:α->Int} (h: ∀a,f a<=g a): ∀l:List α,sumC f l<=sumC g l
  | []=>Int.le_refl _
  | a::l=>by
    have:=h a
    have:=sumC_mono h l
    simp only [sumC]
    omega
theorem numF_x {q:Nat} {ns:List Fd} (h: ∀d∈ns,d.Exs.length<=1048576): ∀n∈numL nF sF q ns,n.Exs.2.length<=1048576:=fun n hn=>by
  have h1:n.d∈ns:=by rw [<-numF_d q ns];exact List.mem_map_of_mem hn
  have h2:n.d.Exs.length=n.Exs.2.length:=by simp [Nf.d]
  have:=h _ h1
  omega
theorem numT_x {q:Nat} {ts:List Tb} (h: ∀t∈ts,t.2.2.length<=1048576): ∀n∈numL nT sT q ts,n.2.2.2.length<=1048576:=fun n hn=>by
  have h1:n.t∈ts:=by rw [<-numT_t q ts];exact List.mem_map_of_mem hn
  have h2:n.t.2.2.length=n.2.2.2.length:=by simp [Nt.t]
  have:=h _ h1
  omega
set_option maxRecDepth 100000 in
set_option maxHeartbeats 16000000 in
theorem ok9 (ns:List Fd) (rt:Int) (hrt:okV (.int .i64 rt)=true) (x:List (List E)) (hx:x=ns.map fdr) (ts:List Tb) (xt:List (List E)) (hxt:xt=ts.map tbr):
    Plain Try.prog 9 [.agg [.e (.sl x),.int rt],.agg [.e (.sl xt)]] (.bool true):=okOf mixed p9 fun A P hA hP=>(by
  have h1:=ok27 ns rt x hx 1048576 (by omega)
  have n0:0<=cFS ns:=by have:=sumC_nonneg cFd_nonneg ns;unfold cFS;omega
  by_cases c1:(1048576:Int)-cFS ns<0
  · rw [show cut 1048576 (cFS ns)= -1 by unfold cut;rw [if_pos c1]] at h1
    cbv
    repeat' first | with_reducible rfl | with_reducible refine And.intro ?_ ?_ | ((with_reducible intro hcc);first | (cases hcc;done) | skip) | ((with_reducible first | show goC _ _ _ _ _ _ _ _ | show goOps _ _ _ _ _ | show goD _ _ _ _ _ _);cbv) | ((with_reducible show okWr _ _=_);rfl) | ((with_reducible first | refine callK_f hA hP h1 ?_ ?_ ?_);exact rfl;exact rfl;cbv) | ((with_reducible first | refine hA.fin_pl _ _ _ ?_ | refine hA.alt _ _ (Or.inl ?_) | refine hA.gb0 true _ ?_ | refine hA.gb0 false _ ?_ | refine hA.gb _ _ fun vb hvb=>?_);cbv) | ((with_reducible first | refine hA.st _ _ _ _ _ ⟨?_,fun ds hds=>?_⟩);rotate_left;cbv) | (simp only [hA.lits];cbv)
    all_goals try simp only [hA.ar,inR,n_cast,Int.ofNat_eq_natCast,Option.getD_some,Option.getD_none] at *
    all_goals grind
  rw [show cut 1048576 (cFS ns)=1048576-cFS ns by unfold cut;rw [if_neg c1]] at h1
  obtain ⟨a,ha⟩: ∃a:Int,a=1048576-cFS ns:=⟨_,rfl⟩
  rw [<-ha] at h1
  have e1:A.lt a 0=false:=by rw [hA.lt];exact decide_eq_false (by omega)
  have h2:=ok28 ts xt hxt a (by omega)
  by_cases c2:a-cTS ts<0
  · rw [show cut a (cTS ts)= -1 by unfold cut;rw [if_pos c2]] at h2
    cbv
    repeat' first | with_reducible rfl | (simp only [e1];cbv) | with_reducible refine And.intro ?_ ?_ | ((with_reducible intro hcc);first | (cases hcc;done) | skip) | ((with_reducible first | show goC _ _ _ _ _ _ _ _ | show goOps _ _ _ _ _ | show goD _ _ _ _ _ _);cbv) | ((with_reducible show okWr _ _=_);rfl) | ((with_reducible first | refine callK_f hA hP h1 ?_ ?_ ?_ | refine callK_f hA hP h2 ?_ ?_ ?_);exact rfl;exact rfl;cbv) | ((with_reducible first | refine hA.fin_pl _ _ _ ?_ | refine hA.alt _ _ (Or.inl ?_) | refine hA.gb0 true _ ?_ | refine hA.gb0 false _ ?_ | refine hA.gb _ _ fun vb hvb=>?_);cbv) | ((with_reducible first | refine hA.st _ _ _ _ _ ⟨?_,fun ds hds=>?_⟩);rotate_left;cbv) | (simp only [hA.lits];cbv)
    all_goals try simp only [hA.ar,inR,n_cast,Int.ofNat_eq_natCast,Option.getD_some,Option.getD_none] at *
    all_goals grind
  rw [show cut a (cTS ts)=a-cTS ts by unfold cut;rw [if_neg c2]] at h2
  obtain ⟨c,hc⟩: ∃c:Int,c=a-cTS ts:=⟨_,rfl⟩
  rw [<-hc] at h2
  have e2:A.lt c 0=false:=by rw [hA.lt];exact decide_eq_false (by omega)
  have hsz:cTS ts<=1048576:=by omega
  have hsf:cFS ns<=1048576:=by have:=cTS_nonneg ts;omega
  obtain ⟨s1,s2⟩:=sz_in' hsz
  obtain ⟨s3,s4⟩:=flat_in (ns:=ns) hsf
  have hxl:x.length<=1048576:=by rw [hx,List.length_map];exact s3
  have h212:=ok30 ns rt x hx s3 s4
  have h37:=ok31 ts xt hxt s1 s2
  obtain ⟨b,os,ro,L,ql,qe,h222,h223,hos,⟨nL,hLn,hLd⟩,hLl,hLx,hLs,hro⟩:=sim_both ns rt x hx ts xt hxt hxl s4 hsz hsf
  have t212:=m212 0 ns rt x hx s3 s4
  have t37:=m37 0 ts xt hxt s1 s2
  have hFn:=numF_ok 0 ns
  obtain ⟨nX,hXn,hXd⟩:=eFs_nums (L:=numL nF sF 0 ns) (q:=0+sumN sF ns) (i:=0+sumN sF ns) ⟨hFn.1,fun n h=>(hFn.2 n h).2⟩ (Nat.le_refl _)
  obtain ⟨nT1,hTn,hTd⟩:=eTs_nums 0 (0+sumN sT ts) ts (Nat.le_refl _)
  have hroV:okV (.int .i64 ro)=true:=by rcases hro with h | h <;>rw [h];exact hrt;rfl
  have kF:=cFs_le (numL nF sF 0 ns)
  have kT:=cNts_le 0 ts
  rw [numF_d,numL_len] at kF
  have kT2:sumC (fun t:Tb=>sumC cV t.2.2) ts<=sumC cT ts:=sumC_mono (fun t=>by unfold cT cSS;omega) ts
  have kF2:cFS ns=ns.length+sumC cFd ns:=rfl
  have kT3:cTS ts=ts.length+sumC cT ts:=rfl
  have pF:=sumC_nonneg cF_nonneg (numL nF sF 0 ns)
  have pT:=sumC_nonneg cNt_nonneg (numL nT sT 0 ts)
  have pL:=sumC_nonneg cF_nonneg L
  obtain ⟨k0,hk0⟩: ∃k,k=1+sumC cF (numL nF sF 0 ns):=⟨_,rfl⟩
  obtain ⟨k1,hk1⟩: ∃k,k=k0+sumC cNt (numL nT sT 0 ts):=⟨_,rfl⟩
  obtain ⟨k2,hk2⟩: ∃k,k=1+sumC cF L:=⟨_,rfl⟩
  have m1:=mark224 (0+sumN sF ns) (numL nF sF 0 ns) rt 1 hrt (by omega) (by omega) (by rw [numL_len];exact s3) (numF_x fun d hd=>(s4 d hd).2.1)
  have m2:=mark225 (0+sumN sT ts) (numL nT sT 0 ts) k0 (by omega) (by omega) (by rw [numL_len];exact s1) (numT_x fun t ht=>(s2 t ht).1)
  have m3:=mark224 ql L ro 1 hroV (by omega) (by omega) hLl hLx
  have q4:=ok46 ql L ro 1 (by omega) (by omega)
  rw [<-hk0] at m1
  rw [<-hk1] at m2
  rw [<-hk2] at m3 q4
  have uX:(eFs (0+sumN sF ns) (numL nF sF 0 ns)).un= .sl x:=by
    rw [eFs_un,hx,show (numL nF sF 0 ns).map (fun n=>fdr n.d)=((numL nF sF 0 ns).map Nf.d).map fdr by rw [List.map_map];rfl,numF_d]
  have uT:(eTs (0+sumN sT ts) (numL nT sT 0 ts)).un= .sl xt:=by
    rw [eTs_un,hxt,show (numL nT sT 0 ts).map (fun n=>tbr n.t)=((numL nT sT 0 ts).map Nt.t).map tbr by rw [List.map_map];rfl,numT_t]
  have uL:(eFs ql L).un= .sl (os.map fdr):=by
    rw [eFs_un,<-hos,List.map_map];rfl
  obtain ⟨xo,hxo⟩: ∃y,y=os.map fdr:=⟨_,rfl⟩
  rw [<-hxo] at h222 uL
  have e3:A.lt k1 0=false:=by rw [hA.lt];exact decide_eq_false (by omega)
  have e4:A.lt k2 0=false:=by rw [hA.lt];exact decide_eq_false (by omega)
  have e5:A.eq k2 k2=true:=by rw [hA.eq];exact decide_eq_true rfl
  have q1:=ok33 os os ro ro xo xo hxo hxo
  rw [decide_eq_true rfl,decide_eq_true rfl] at q1
  have q2:=ok33 ns ns rt rt x x hx hx
  rw [decide_eq_true rfl,decide_eq_true rfl] at q2
  have q3:=ok34 ts ts xt xt hxt hxt
  rw [decide_eq_true rfl] at q3
  have xu:(E.sl x).un= .sl x:=by rw [<-uX];exact (E.un_un _)
  have xtu:(E.sl xt).un= .sl xt:=by rw [<-uT];exact (E.un_un _)
  have xou:(E.sl xo).un= .sl xo:=by rw [<-uL];exact (E.un_un _)
  obtain ⟨X0,hX0⟩: ∃X,X=eFs (0+sumN sF ns) (numL nF sF 0 ns):=⟨_,rfl⟩
  obtain ⟨X1,hX1⟩: ∃X,X=eTs (0+sumN sT ts) (numL nT sT 0 ts):=⟨_,rfl⟩
  obtain ⟨X2,hX2⟩: ∃X,X=eFs ql L:=⟨_,rfl⟩
  obtain ⟨X0',hX0'⟩: ∃X,X=eFs (0+sumN sF ns) (mkL mkF cF 1 (numL nF sF 0 ns)):=⟨_,rfl⟩
  obtain ⟨X1',hX1'⟩: ∃X,X=eTs (0+sumN sT ts) (mkL mkT cNt k0 (numL nT sT 0 ts)):=⟨_,rfl⟩
  obtain ⟨X2',hX2'⟩: ∃X,X=eFs ql (mkL mkF cF 1 L):=⟨_,rfl⟩
  obtain ⟨m0,hm0⟩: ∃m,m=0+sumN sF ns+1:=⟨_,rfl⟩
  obtain ⟨m9,hm9⟩: ∃m,m=0+sumN sT ts+1:=⟨_,rfl⟩
  rw [<-hX0,<-hm0] at t212
  rw [<-hX1,<-hm9] at t37
  rw [<-hX2] at h223 hLn uL
  rw [<-hX0] at hXn uX
  rw [<-hX1] at hTn uT
  rw [<-hX0,<-hX0'] at m1
  rw [<-hX1,<-hX1'] at m2
  rw [<-hX2,<-hX2'] at m3
  rw [<-hX2'] at q4
  clear hX0 hX1 hX2 hX0' hX1' hX2' hm0 hm9 hk0 hk1 hk2 pF pT pL kF kT kT2 kF2 kT3 hFn hLl hLx hLs hro hroV hos hxo ha hc c1 c2 s1 s2 s3 s4 hx hxt n0 hsz hsf hxl
  have once:True:=trivial
  have once2:True:=trivial
  have aF: ∀ {h:Hp} {i:Nat} {R:Int} {X:E} {y:List (List E)} {l:List Nat},i∈l->h i= .res (Tree X)->X.un= .sl y->LentT h l (.agg [.rv i,.int R]) (.agg [.e (.sl y),.int R]):=fun {h i R X y l} a b e=> .agg rfl fun j d c h1 h2=>by
    match j with
    | 0=>cases h1;cases h2;rw [<-e];exact .rv a b
    | 1=>cases h1;cases h2;exact .e rfl
    | j+2=>simp at h1
  have aT: ∀ {h:Hp} {i:Nat} {X:E} {y:List (List E)} {l:List Nat},i∈l->h i= .res (Tree X)->X.un= .sl y->LentT h l (.agg [.rv i]) (.agg [.e (.sl y)]):=fun {h i X y l} a b e=> .agg rfl fun j d c h1 h2=>by
    match j with
    | 0=>cases h1;cases h2;rw [<-e];exact .rv a b
    | j+1=>simp at h1
  have bF: ∀ {h:Hp} {R:Int} {y:List (List E)} {l:List Nat},(E.sl y).un= .sl y->LentT h l (.agg [.e (.sl y),.int R]) (.agg [.e (.sl y),.int R]):=fun {h R y l} e=> .agg rfl fun j d c h1 h2=>by
    match j with
    | 0=>cases h1;cases h2;exact .e e
    | 1=>cases h1;cases h2;exact .e rfl
    | j+2=>simp at h1
  have bT: ∀ {h:Hp} {y:List (List E)} {l:List Nat},(E.sl y).un= .sl y->LentT h l (.agg [.e (.sl y)]) (.agg [.e (.sl y)]):=fun {h y l} e=> .agg rfl fun j d c h1 h2=>by
    match j with
    | 0=>cases h1;cases h2;exact .e e
    | j+1=>simp at h1
  have aG: ∀ {h:Hp} {i:Nat} {R:Int} {X:E} {l:List Nat},i∈l->h i= .res (Tree X)->LentT h l (.agg [.rv i,.int R]) (.agg [.e X.un,.int R]):=fun {h i R X l} a b=> .agg rfl fun j d c h1 h2=>by
    match j with
    | 0=>cases h1;cases h2;exact .rv a b
    | 1=>cases h1;cases h2;exact .e rfl
    | j+2=>simp at h1
  cbv
  repeat' first | with_reducible rfl | (simp only [e1,e2,e3,e4,e5];cbv) | with_reducible refine And.intro ?_ ?_ | ((with_reducible intro hcc);first | (cases hcc;done) | skip) | ((with_reducible first | show goC _ _ _ _ _ _ _ _ | show goOps _ _ _ _ _ | show goD _ _ _ _ _ _);cbv) | ((with_reducible show okWr _ _=_);rfl) | ((with_reducible first | refine callK_f hA hP h1 ?_ ?_ ?_ | refine callK_f hA hP h2 ?_ ?_ ?_);exact rfl;exact rfl;cbv) | (clear once;(with_reducible refine callK_f hA hP h212 ?_ ?_ ?_);exact rfl;exact rfl;cbv) | (clear once2;(with_reducible refine callK_f hA hP h37 ?_ ?_ ?_);exact rfl;exact rfl;cbv) | ((with_reducible first | refine callK_f hA hP h222 ?_ ?_ ?_);exact rfl;exact rfl;cbv) | ((with_reducible show A.call _ _ _ _ _ 30 _ _ _);refine callK_tree hA hP [] (fun _ _=>t212) ⟨bF xu,trivial⟩ hXn hXd (Swap.agg Swap.e rfl) ?_;cbv) | ((with_reducible show A.call _ _ _ _ _ 31 _ _ _);refine callK_tree hA hP [] (fun _ _=>t37) ⟨bT xtu,trivial⟩ hTn hTd (Swap.agg Swap.e rfl) ?_;cbv) | ((with_reducible show A.call _ _ _ _ _ 43 _ _ _);refine callK_tree hA hP [3,5] (fun _ _=>h223) ⟨aF (by decide) rfl uX,aT (by decide) rfl uT,trivial⟩ hLn hLd (Swap.tup (Swap.agg Swap.e rfl) rfl) ?_;cbv) | ((with_reducible show A.call _ _ _ _ _ 43 _ _ _);refine callK_tree hA hP [11,12] (fun _ _=>h223) ⟨aF (by decide) rfl uX,aT (by decide) rfl uT,trivial⟩ hLn hLd (Swap.tup (Swap.agg Swap.e rfl) rfl) ?_;cbv) | ((with_reducible show A.call _ _ _ _ _ 33 _ _ _);refine callK_lookT hA hP [7] (fun _ _=>q1) ⟨aF (by decide) rfl uL,bF xou,trivial⟩ rfl ?_;cbv) | ((with_reducible show A.call _ _ _ _ _ 33 _ _ _);refine callK_lookT hA hP [13] (fun _ _=>q1) ⟨aF (by decide) rfl uL,bF xou,trivial⟩ rfl ?_;cbv) | ((with_reducible show A.call _ _ _ _ _ 33 _ _ _);refine callK_lookT hA hP [3,9] (fun _ _=>q2) ⟨aF (by decide) rfl uX,aF (by decide) rfl uX,trivial⟩ rfl ?_;cbv) | ((with_reducible show A.call _ _ _ _ _ 34 _ _ _);refine callK_lookT hA hP [5,10] (fun _ _=>q3) ⟨aT (by decide) rfl uT,aT (by decide) rfl uT,trivial⟩ rfl ?_;cbv) | ((with_reducible show A.call _ _ _ _ _ 44 _ _ _);refine callK_mark hA hP 3 rfl hd_agg2 ?_ m1;cbv) | ((with_reducible show A.call _ _ _ _ _ 45 _ _ _);refine callK_mark hA hP 5 rfl hd_agg1 ?_ m2;cbv) | ((with_reducible show A.call _ _ _ _ _ 44 _ _ _);refine callK_mark hA hP 7 rfl hd_agg2 ?_ m3;cbv) | ((with_reducible show A.call _ _ _ _ _ 46 _ _ _);refine callK_lookT hA hP [7] (fun _ _=>q4) ⟨aG (by decide) rfl,.e rfl,trivial⟩ rfl ?_;cbv) | ((with_reducible first | refine hA.fin_pl _ _ _ ?_ | refine hA.alt _ _ (Or.inl ?_) | refine hA.gb0 true _ ?_ | refine hA.gb0 false _ ?_ | refine hA.gb _ _ fun vb hvb=>?_);cbv) | ((with_reducible first | refine hA.st _ _ _ _ _ ⟨?_,fun ds hds=>?_⟩);rotate_left;cbv) | (simp only [hA.lits];cbv)
  all_goals try simp only [hA.ar,inR,n_cast,Int.ofNat_eq_natCast,Option.getD_some,Option.getD_none] at *
  all_goals first
    | omega
    | rfl
    | (trace_state;fail))
end Go.Proofs.Ytfplalbognalkaa.Ab
