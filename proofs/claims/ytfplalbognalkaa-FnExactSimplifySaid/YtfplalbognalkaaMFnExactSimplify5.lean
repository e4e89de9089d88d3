/- Names: valid, by the specification and by the program. -/
import Derived.Test.YtfplalbognalkaaMFnExactSimplify4
set_option linter.unusedSimpArgs false
set_option linter.unusedVariables false
set_option linter.unnecessarySimpa false
set_option linter.constructorNameAsVariable false
namespace Go.Proofs.Ytfplalbognalkaa.Ab
open Go
set_option maxRecDepth 100000 in
set_option maxHeartbeats 1000000 in
theorem ok163 (s:List UInt8):Plain Try.prog 163 [.str s] (.bool (isWord s)):=okOf mixed p163 fun A P hA hP=>(by
  obtain ⟨r,hr⟩: ∃r,r=isWord s:=⟨_,rfl⟩
  rw [<-hr]
  cbv
  repeat' first | with_reducible rfl | with_reducible refine And.intro ?_ ?_ | ((with_reducible intro hcc);first | (cases hcc;done) | skip) | ((with_reducible first | show goC _ _ _ _ _ _ _ _ | show goOps _ _ _ _ _ | show goD _ _ _ _ _ _);cbv) | ((with_reducible show okWr _ _=_);rfl) | ((with_reducible first | refine hA.fin_pl _ _ _ ?_ | refine hA.slen _ _ _ _ _ fun z hz hb=>?_ | refine hA.alt _ _ (Or.inl ?_) | refine hA.six _ _ _ fun z6 c hz6 hc hc2=>?_ | refine hA.gb0 true _ ?_ | refine hA.gb0 false _ ?_ | refine hA.gb _ _ fun vb hvb=>?_);cbv) | ((with_reducible first | refine hA.sapp _ _ _ ⟨?_,fun sl hsl=>?_⟩);rotate_left;cbv) | (simp only [hA.lits];cbv)
  all_goals try simp only [hA.ar,inR,n_cast,Int.ofNat_eq_natCast,Option.getD_some,Option.getD_none] at *
  refine hA.loopI (fun n st=> ∃i:Int,0<=i/\n+i=s.length/\(∀j:Nat,j<i->okAt s j=true)/\st=⟨[(3,.int i),(2,.bool false),(0,.str s)], []⟩) s.length _
    (Weak.keep (env':= [(3,.int 0),(2,.bool false),(0,.str s)]) ⟨rfl,rfl,rfl,trivial⟩) ⟨0,by omega,by omega,fun j hj=>by omega,rfl⟩ ?_
  rintro n st K ⟨i,h0,h1,h2,rfl⟩ hK
  by_cases hin:i<s.length
  · obtain ⟨cN,hcN⟩: ∃cN,cN=(s.getD i.toNat 0).toNat:=⟨_,rfl⟩
    have hch:chAt s i.toNat=(cN:Int):=by rw [chAt,hcN]
    have e102:=ok192 (cN:Int)
    have e103:=ok193 (cN:Int)
    obtain ⟨bl,hbl⟩: ∃b,b=isLet (cN:Int):=⟨_,rfl⟩
    obtain ⟨bd,hbd⟩: ∃b,b=isDig (cN:Int):=⟨_,rfl⟩
    rw [<-hbl] at e102
    rw [<-hbd] at e103
    obtain ⟨o,ho⟩: ∃o,o=okAt s i.toNat:=⟨_,rfl⟩
    have ho2:o=(bl || (decide (i≠0)&&(bd || decide ((cN:Int)=95)))):=by
      rw [ho,okAt,hch,<-hbl,<-hbd]
      have:decide (i.toNat≠0)=decide (i≠0):=by rw [decide_eq_decide];omega
      rw [this]
    have f1:o=false->r=false:=fun e=>by
      rw [hr,isWord,decide_eq_false_iff_not]
      intro ⟨_,q⟩
      have:=q i.toNat (by omega)
      rw [<-ho,e] at this
      cases this
    have f2:o=true-> ∀s1,Weak (hpF []) s1 ⟨[(3,.int (i+1)),(2,.bool false),(0,.str s)], []⟩->K s1:=fun e s1 hw=>by
      refine hK s1 (n-1) _ (by omega) hw ⟨i+1,by omega,by omega,fun j hj=>?_,rfl⟩
      by_cases hji:(j:Int)<i
      · exact h2 j hji
      · have:j=i.toNat:=by omega
        rw [this,<-ho];exact e
    clear hK h2 hr ho hbl hbd hch
    cbv
    repeat' first | with_reducible rfl | with_reducible refine And.intro ?_ ?_ | ((with_reducible intro hcc);first | (cases hcc;done) | skip) | ((with_reducible first | show goC _ _ _ _ _ _ _ _ | show goOps _ _ _ _ _ | show goD _ _ _ _ _ _);cbv) | ((with_reducible show okWr _ _=_);rfl) | ((with_reducible first | refine callK_f hA hP e102 ?_ ?_ ?_ | refine callK_f hA hP e103 ?_ ?_ ?_);exact rfl;exact rfl;cbv) | ((with_reducible refine hA.six _ _ _ fun z6 c hz6 hc hc2=>?_);(have e6:cN=c:=(by rw [hc,hcN]));subst e6;cbv) | ((with_reducible first | refine hA.fin_pl _ _ _ ?_ | refine hA.slen _ _ _ _ _ fun z hz hb=>?_ | refine hA.alt _ _ (Or.inl ?_) | refine hA.six _ _ _ fun z6 c hz6 hc hc2=>?_ | refine hA.gb0 true _ ?_ | refine hA.gb0 false _ ?_ | refine hA.gb _ _ fun vb hvb=>?_);cbv) | ((with_reducible first | refine hA.sapp _ _ _ ⟨?_,fun sl hsl=>?_⟩);rotate_left;cbv) | (simp only [hA.lits];cbv)
    all_goals try simp only [hA.ar,inR,n_cast,Int.ofNat_eq_natCast,Option.getD_some,Option.getD_none] at *
    all_goals first
      | omega
      | (refine f2 ?_ _ (Weak.keep ⟨rfl,rfl,rfl,trivial⟩);clear f2 f1 hcN hc;grind;done)
      | (rw [f1 (by clear f2 f1 hcN hc;grind)];done)
      | (clear f2 f1 hcN hc;grind;done)
      | (clear f2 f1 hcN;simp at *;omega)
      | (trace_state;fail)
  · have hr2:r=decide (0<s.length):=by
      rw [hr,isWord,decide_eq_decide]
      exact ⟨fun q=>q.1,fun q=>⟨q,fun j hj=>h2 j (by omega)⟩⟩
    clear hr hK h2
    cbv
    repeat' first | with_reducible rfl | with_reducible refine And.intro ?_ ?_ | ((with_reducible intro hcc);first | (cases hcc;done) | skip) | ((with_reducible first | show goC _ _ _ _ _ _ _ _ | show goOps _ _ _ _ _ | show goD _ _ _ _ _ _);cbv) | ((with_reducible show okWr _ _=_);rfl) | (exfalso;simp only [hA.lt,hA.sub,decide_eq_true_eq,decide_eq_false_iff_not,n_cast] at *;omega) | ((with_reducible first | refine hA.fin_pl _ _ _ ?_ | refine hA.slen _ _ _ _ _ fun z hz hb=>?_ | refine hA.alt _ _ (Or.inl ?_) | refine hA.six _ _ _ fun z6 c hz6 hc hc2=>?_ | refine hA.gb0 true _ ?_ | refine hA.gb0 false _ ?_ | refine hA.gb _ _ fun vb hvb=>?_);cbv) | ((with_reducible first | refine hA.sapp _ _ _ ⟨?_,fun sl hsl=>?_⟩);rotate_left;cbv) | (simp only [hA.lits];cbv)
    all_goals try simp only [hA.ar,inR,n_cast,Int.ofNat_eq_natCast,Option.getD_some,Option.getD_none] at *
    all_goals first
      | (rw [hr2];congr 3;rw [decide_eq_decide];omega)
      | omega
      | (trace_state;fail))
theorem ok115 (s:List UInt8):Plain Try.prog 115 [.str s] (.bool (nameB s)):=okOf mixed p115 fun A P hA hP=>(by
  obtain ⟨w,hw⟩: ∃w,w=isWord s:=⟨_,rfl⟩
  obtain ⟨k,hk⟩: ∃k,k=keyB s:=⟨_,rfl⟩
  have h87:=ok163 s
  have h88:=ok164 s
  have hn:nameB s=(w&&(decide (s.length<=64)&&!k)):=by rw [hw,hk];rfl
  rw [hn]
  rw [<-hw] at h87
  rw [<-hk] at h88
  obtain ⟨n,hn⟩: ∃n,n=s.length:=⟨_,rfl⟩
  rw [<-hn]
  clear hw hk
  cbv
  repeat' first | with_reducible rfl | with_reducible refine And.intro ?_ ?_ | ((with_reducible intro hcc);first | (cases hcc;done) | skip) | ((with_reducible first | show goC _ _ _ _ _ _ _ _ | show goOps _ _ _ _ _ | show goD _ _ _ _ _ _);cbv) | ((with_reducible show okWr _ _=_);rfl) | ((with_reducible first | refine callK_f hA hP h87 ?_ ?_ ?_ | refine callK_f hA hP h88 ?_ ?_ ?_);exact rfl;exact rfl;cbv) | ((with_reducible first | refine hA.fin_pl _ _ _ ?_ | refine hA.slen _ _ _ _ _ fun z hz hb=>?_ | refine hA.alt _ _ (Or.inl ?_) | refine hA.gb0 true _ ?_ | refine hA.gb0 false _ ?_ | refine hA.gb _ _ fun vb hvb=>?_);cbv) | (simp only [hA.lits];cbv)
  all_goals try simp only [hA.ar,inR,n_cast,Int.ofNat_eq_natCast,Option.getD_some,Option.getD_none] at *
  all_goals first
    | omega
    | (clear h87 h88;grind;done)
    | (clear h87 h88;simp at *;grind;done)
    | (trace_state;fail))
end Go.Proofs.Ytfplalbognalkaa.Ab
/- Names: valid, by the program. -/
namespace Go.Proofs.Ytfplalbognalkaa.Ab
open Go
theorem nameB_false (s:List UInt8):(s.length<1->nameB s=false)/\(64<s.length->nameB s=false)/\(1<=s.length->isLet (chAt s 0)=false->nameB s=false)/\(keyB s=true->nameB s=false)/\
    (∀j,j<s.length->isLet (chAt s j)=false->isDig (chAt s j)=false->chAt s j≠95->nameB s=false)/\
    (1<=s.length->s.length<=64->isLet (chAt s 0)=true->keyB s=false->(∀j,j<s.length->(isLet (chAt s j) || (isDig (chAt s j) || decide (chAt s j=95)))=true)->nameB s=true):=by
  have hw: ∀j,j<s.length->okAt s j=false->isWord s=false:=fun j hj e=>by
    rw [isWord,decide_eq_false_iff_not]
    intro ⟨_,q⟩
    rw [q j hj] at e;cases e
  refine ⟨fun h=>?_,fun h=>?_,fun h e=>?_,fun h=>?_,fun j hj e1 e2 e3=>?_,fun h1 h2 e1 e2 q=>?_⟩
  · have:isWord s=false:=by rw [isWord,decide_eq_false_iff_not];intro ⟨q,_⟩;omega
    simp [nameB,this]
  · simp [nameB,show¬s.length<=64 by omega]
  · simp [nameB,hw 0 (by omega) (by simp [okAt,e])]
  · simp [nameB,h]
  · simp [nameB,hw j hj (by simp [okAt,e1,e2,e3])]
  · have:isWord s=true:=by
      rw [isWord,decide_eq_true_eq]
      refine ⟨by omega,fun j hj=>?_⟩
      have:=q j hj
      by_cases h0:j=0
      · subst h0;simp [okAt,e1]
      · simpa [okAt,h0] using this
    simp [nameB,this,h2,e2]
set_option maxRecDepth 100000 in
set_option maxHeartbeats 1000000 in
theorem ok119 (s:List UInt8):Plain Try.prog 119 [.str s] (.bool (nameB s)):=okOf mixed p119 fun A P hA hP=>(by
  obtain ⟨g1,g2,g3,g4,g5,g6⟩:=nameB_false s
  obtain ⟨r,hr⟩: ∃r,r=nameB s:=⟨_,rfl⟩
  rw [<-hr] at g1 g2 g3 g4 g5 g6 ⊢
  obtain ⟨c0,hc0⟩: ∃c,c=(s.getD 0 0).toNat:=⟨_,rfl⟩
  have hch0:chAt s 0=(c0:Int):=by rw [chAt,hc0]
  rw [hch0] at g3 g6
  obtain ⟨b0,hb0⟩: ∃b,b=isLet (c0:Int):=⟨_,rfl⟩
  have e90:=ok166 (c0:Int)
  rw [<-hb0] at g3 g6 e90
  have e91:=ok167 s
  obtain ⟨kb,hkb⟩: ∃b,b=keyB s:=⟨_,rfl⟩
  rw [<-hkb] at g4 g6 e91
  clear hr hb0 hkb hch0
  cbv
  repeat' first | with_reducible rfl | with_reducible refine And.intro ?_ ?_ | ((with_reducible intro hcc);first | (cases hcc;done) | skip) | ((with_reducible first | show goC _ _ _ _ _ _ _ _ | show goOps _ _ _ _ _ | show goD _ _ _ _ _ _);cbv) | ((with_reducible show okWr _ _=_);rfl) | ((with_reducible first | refine callK_f hA hP e90 ?_ ?_ ?_ | refine callK_f hA hP e91 ?_ ?_ ?_);exact rfl;exact rfl;cbv) | ((with_reducible refine hA.six _ _ _ fun z6 c hz6 hc hc2=>?_);(have e6:c0=c:=(by rw [hc,hc0];rfl));subst e6;cbv) | ((with_reducible first | refine hA.fin_pl _ _ _ ?_ | refine hA.slen _ _ _ _ _ fun z hz hb=>?_ | refine hA.alt _ _ (Or.inl ?_) | refine hA.six _ _ _ fun z6 c hz6 hc hc2=>?_ | refine hA.gb0 true _ ?_ | refine hA.gb0 false _ ?_ | refine hA.gb _ _ fun vb hvb=>?_);cbv) | ((with_reducible first | refine hA.sapp _ _ _ ⟨?_,fun sl hsl=>?_⟩);rotate_left;cbv) | (simp only [hA.lits];cbv)
  all_goals try simp only [hA.ar,inR,n_cast,Int.ofNat_eq_natCast,Option.getD_some,Option.getD_none] at *
  all_goals try (first
    | omega
    | (clear g1 g2 g3 g4 g5 g6 hc0;simp at *;omega)
    | (clear g1 g2 g3 g4 g5 g6;simp at *;grind;done))
  · have hfalse:r=false:=by
      have q1:(s.length:Int)<1\/64<(s.length:Int)\/(1<=(s.length:Int)/\b0=false)\/kb=true:=by
        clear g1 g2 g3 g4 g5 g6
        simp at *
        grind
      rcases q1 with q | q | ⟨q,q'⟩ | q
      · exact g1 (by omega)
      · exact g2 (by omega)
      · exact g3 (by omega) q'
      · exact g4 q
    rw [hfalse]
  · have q1:1<=(s.length:Int)/\(s.length:Int)<=64/\b0=true/\kb=false:=by
      clear g1 g2 g3 g4 g5 g6
      simp at *
      grind
    obtain ⟨q1,q2,q3,q4⟩:=q1
    refine hA.loopI (fun n st=> ∃i zz:Int,0<=i/\zz=s.length/\n+i=zz/\(∀j:Nat,j<i->(isLet (chAt s j) || (isDig (chAt s j) || decide (chAt s j=95)))=true)/\st=⟨[(24,.int i),(23,.int zz),(2,.bool false),(0,.str s)], []⟩) s.length _
      (Weak.keep (env':= [(24,.int 0),(23,.int z),(2,.bool false),(0,.str s)]) ⟨rfl,rfl,rfl,rfl,trivial⟩) ⟨0,z,by omega,by omega,by omega,fun j hj=>by omega,rfl⟩ ?_
    rintro n st K ⟨i,zz,h0,hz,h1,h2,rfl⟩ hK
    by_cases hin:i<zz
    · obtain ⟨cN,hcN⟩: ∃cN,cN=(s.getD i.toNat 0).toNat:=⟨_,rfl⟩
      have hch:chAt s i.toNat=(cN:Int):=by rw [chAt,hcN]
      have f90:=ok166 (cN:Int)
      have f92:=ok168 (cN:Int)
      have k5:=g5 i.toNat (by omega)
      rw [hch] at k5
      have k6:(isLet (cN:Int) || (isDig (cN:Int) || decide ((cN:Int)=95)))=true-> ∀s1,Weak (hpF []) s1 ⟨[(24,.int (i+1)),(23,.int zz),(2,.bool false),(0,.str s)], []⟩->K s1:=fun e s1 hw=>by
        refine hK s1 (n-1) _ (by omega) hw ⟨i+1,zz,by omega,hz,by omega,fun j hj=>?_,rfl⟩
        by_cases hji:(j:Int)<i
        · exact h2 j hji
        · have:j=i.toNat:=by omega
          rw [this,hch];exact e
      obtain ⟨bl,hbl⟩: ∃b,b=isLet (cN:Int):=⟨_,rfl⟩
      obtain ⟨bd,hbd⟩: ∃b,b=isDig (cN:Int):=⟨_,rfl⟩
      rw [<-hbl] at f90 k5 k6
      rw [<-hbd] at f92 k5 k6
      clear hK h2 hbl hbd hch g1 g2 g3 g4 g5 g6 e90 e91 hvb q3 q4
      cbv
      repeat' first | with_reducible rfl | with_reducible refine And.intro ?_ ?_ | ((with_reducible intro hcc);first | (cases hcc;done) | skip) | ((with_reducible first | show goC _ _ _ _ _ _ _ _ | show goOps _ _ _ _ _ | show goD _ _ _ _ _ _);cbv) | ((with_reducible show okWr _ _=_);rfl) | ((with_reducible first | refine callK_f hA hP f90 ?_ ?_ ?_ | refine callK_f hA hP f92 ?_ ?_ ?_);exact rfl;exact rfl;cbv) | ((with_reducible refine hA.six _ _ _ fun z6 c hz6 hc hc2=>?_);(have e6:cN=c:=(by rw [hc,hcN]));subst e6;cbv) | ((with_reducible first | refine hA.fin_pl _ _ _ ?_ | refine hA.slen _ _ _ _ _ fun z hz hb=>?_ | refine hA.alt _ _ (Or.inl ?_) | refine hA.six _ _ _ fun z6 c hz6 hc hc2=>?_ | refine hA.gb0 true _ ?_ | refine hA.gb0 false _ ?_ | refine hA.gb _ _ fun vb hvb=>?_);cbv) | ((with_reducible first | refine hA.sapp _ _ _ ⟨?_,fun sl hsl=>?_⟩);rotate_left;cbv) | (simp only [hA.lits];cbv)
      all_goals try simp only [hA.ar,inR,n_cast,Int.ofNat_eq_natCast,Option.getD_some,Option.getD_none] at *
      all_goals first
        | omega
        | (refine k6 ?_ _ (Weak.keep ⟨rfl,rfl,rfl,rfl,trivial⟩);clear k6 k5 hcN hc;simp at *;grind;done)
        | (rw [k5 (by clear k6 k5 hcN;grind) (by clear k6 k5 hcN;grind) (by clear k6 k5 hcN;grind)];done)
        | (clear k6 k5 hcN;simp at *;omega)
        | (clear k6 k5 hcN;grind;done)
        | (trace_state;fail)
    · have hr2:r=true:=g6 (by omega) (by omega) q3 q4 fun j hj=>h2 j (by omega)
      clear hK h2 g1 g2 g3 g4 g5 g6
      cbv
      repeat' first | with_reducible rfl | with_reducible refine And.intro ?_ ?_ | ((with_reducible intro hcc);first | (cases hcc;done) | skip) | ((with_reducible first | show goC _ _ _ _ _ _ _ _ | show goOps _ _ _ _ _ | show goD _ _ _ _ _ _);cbv) | ((with_reducible show okWr _ _=_);rfl) | (exfalso;simp only [hA.lt,hA.sub,decide_eq_true_eq,decide_eq_false_iff_not,n_cast] at *;omega) | ((with_reducible first | refine hA.fin_pl _ _ _ ?_ | refine hA.slen _ _ _ _ _ fun z hz hb=>?_ | refine hA.alt _ _ (Or.inl ?_) | refine hA.six _ _ _ fun z6 c hz6 hc hc2=>?_ | refine hA.gb0 true _ ?_ | refine hA.gb0 false _ ?_ | refine hA.gb _ _ fun vb hvb=>?_);cbv) | ((with_reducible first | refine hA.sapp _ _ _ ⟨?_,fun sl hsl=>?_⟩);rotate_left;cbv) | (simp only [hA.lits];cbv)
      all_goals try simp only [hA.ar,inR,n_cast,Int.ofNat_eq_natCast,Option.getD_some,Option.getD_none] at *
      all_goals first
        | (rw [hr2];done)
        | omega
        | (trace_state;fail))
end Go.Proofs.Ytfplalbognalkaa.Ab
/- What plans share. -/
namespace Go.Proofs.Ytfplalbognalkaa.Ab
open Go
theorem gg1: ∀b:Bool,(match (match b with | true=>false | false=>true) with | true=>decide (b=false)=true | false=>True):=fun b=>by cases b <;>simp
theorem gg2: ∀b:Bool,(match b with | true=>decide (b=true)=true | false=>True):=fun b=>by cases b <;>simp
theorem gg3: ∀b:Bool,(match decide (b=true) with | true=>True | false=>True):=fun b=>by cases b <;>simp
theorem gg4: ∀b:Bool,(match decide (b=false) with | true=>True | false=>True):=fun b=>by cases b <;>simp
theorem gg5: ∀b:Bool,(match b with | true=>True | false=>True):=fun b=>by cases b <;>simp
def colsOf (ts:List Tb) (t:Int):Int:=(ts.getD t.toNat ([],0, [])).2.1
theorem ors_at {l:List (List (Int×Int))} {es:List (List E)} (he:es=l.map orr) {n:Int} (h:0<=n/\n<es.length): ∃p,es.getD n.toNat []=orr p/\l[n.toNat]?=some p:=row_at he h
theorem gg6: ∀a b:Bool,(match (match decide (a=true) with | false=>false | true=>match b with | true=>false | false=>true) with | true=>(match decide (a=true) with | false=>false | true=>decide (b=false))=true | false=>True):=fun a b=>by cases a <;>cases b <;>simp
theorem all_drop {α:Type} {p:α->Bool} {l:List α} (h: ∀(i:Nat) (a:α),l[i]?=some a->p a=true):l.all p=true:=by
  rw [List.all_eq_true]
  intro a ha
  obtain ⟨i,hi⟩:=List.getElem?_of_mem ha
  exact h i a hi
theorem fl0 {α:Type} {ks:List α} {f:α->List E} {x:List (List E)} (h:x=ks.map f):decide ((x.length:Int)=0)=decide (ks= []):=by
  subst h;cases ks with
  | nil=>rfl
  | cons a r=>simp;omega
theorem ibox_side {args:RF->List D} {i:Int} {d:D} (ha: ∀t,args t=rens t (args id)) (hl:lts 1 (args id)=true) (hd: ∀t,d=d.ren t):Side args (fun _=> [.box [.int i]]) (fun _=>d) (fun _=> [.box [.int i]]):=
  ⟨ha,hl,fun t=>rfl,by intro o ho;simp at ho;subst ho;rfl,hd,fun t=>rfl,by simp⟩
theorem ibox_fin {A:Ar} (hA:A.Ok) {i:Int} {l':List O} {d' d:D} (h0:hpF l' 0= .box [.int i]) (h1:d=d') (hd: ∀t,d=d.ren t) (hl: ∀m,d.lt m=true):A.finv [.box [.int i]] l' d' [.box [.int i]] d:=
  hA.finv _ _ _ _ _ (FinV.ren [0] (fun _=> [.box [.int i]]) (fun _=>d) rfl (.inl h1) ⟨h0,trivial⟩ hd (hl _) (fun t=>rfl) (by intro o ho;simp at ho;subst ho;rfl))
def fstG {α:Type} (q:α->Bool):List α->Int->Int
  | [],_=> -1
  | k::r,i=>if q k then i else fstG q r (i+1)
theorem fstG_any {α:Type} (q:α->Bool): ∀(l:List α) (i:Int),0<=i->decide (0<=fstG q l i)=l.any q
  | [],i,_=>rfl
  | k::r,i,h=>by
    simp only [fstG,List.any_cons]
    by_cases hq:q k=true
    · simp [hq,h]
    · simp only [hq,Bool.false_eq_true,if_false,Bool.false_or]
      exact fstG_any q r (i+1) (by omega)
end Go.Proofs.Ytfplalbognalkaa.Ab
/- Trees: which are valid, as the program and as the specification say it; that both say the same. -/
namespace Go.Proofs.Ytfplalbognalkaa.Ab
open Go
structure Nd where
  K:Int
  N:Int
  M:Int
  S:List UInt8
  T:List UInt8
  Ks:List Int
  deriving DecidableEq,Inhabited
abbrev ir (k:Int):List E:= [E.int k]
def chain (f:Int->Int):List Int->Int->Int
  | [],a=>a
  | k::r,a=>if a<1\/k≠a-1\/f (a-1)<0 then-1 else chain f r (f (a-1))
def kidsAt (ns:List Nd) (i:Nat):List Int:=(ns.getD i default).Ks
def stN (ns:List Nd):Nat->Nat->Int
  | 0,_=> -1
  | n+1,i=>chain (fun j=>stN ns n j.toNat) (kidsAt ns i).reverse i
def st (ns:List Nd) (i:Nat):Int:=stN ns (i+1) i
end Go.Proofs.Ytfplalbognalkaa.Ab
/- The code of functions over trees. -/
namespace Go.Proofs.Ytfplalbognalkaa.Ab
open Go
end Go.Proofs.Ytfplalbognalkaa.Ab
/- The laws' helpers over trees: measured, copied, alike. -/
namespace Go.Proofs.Ytfplalbognalkaa.Ab
open Go
def cI (r:List Int):Int:=r.length
def cN (d:Nd):Int:=d.S.length+d.T.length+cI d.Ks
theorem int_at {l:List Int} {es:List (List E)} (he:es=l.map ir) {n:Int} (h:0<=n/\n<es.length): ∃p,es.getD n.toNat []= [E.int p]/\l[n.toNat]?=some p:=row_at he h
end Go.Proofs.Ytfplalbognalkaa.Ab
/- Kinds of nodes, and of their kids. -/
namespace Go.Proofs.Ytfplalbognalkaa.Ab
open Go
end Go.Proofs.Ytfplalbognalkaa.Ab
/- Flat plans: kinds. -/
namespace Go.Proofs.Ytfplalbognalkaa.Ab
open Go
theorem ok131 (k:Int):Plain Try.prog 131 [.int k] (.bool (two k)):=okOf mixed p131 fun A P hA hP=>(by
  obtain ⟨r,hr⟩: ∃r,r=two k:=⟨_,rfl⟩
  rw [<-hr]
  cbv
  repeat' first | with_reducible rfl | with_reducible refine And.intro ?_ ?_ | ((with_reducible intro hcc);first | (cases hcc;done) | skip) | ((with_reducible first | show goC _ _ _ _ _ _ _ _ | show goOps _ _ _ _ _ | show goD _ _ _ _ _ _);cbv) | ((with_reducible show okWr _ _=_);rfl) | ((with_reducible first | refine hA.fin_pl _ _ _ ?_ | refine hA.alt _ _ (Or.inl ?_) | refine hA.gb0 true _ ?_ | refine hA.gb0 false _ ?_ | refine hA.gb _ _ fun vb hvb=>?_);cbv) | (simp only [hA.lits];cbv)
  all_goals try simp only [hA.ar,inR,n_cast,Int.ofNat_eq_natCast,Option.getD_some,Option.getD_none] at *
  all_goals first | trivial | exact gg1 _ | exact gg2 _ | exact gg3 _ | exact gg4 _ | exact gg5 _ | (clear hr;split <;>first | rfl | trivial | assumption | (simp_all;done)) | (rw [hr,two];grind) | (trace_state;fail))
theorem ok130 (k:Int):Plain Try.prog 130 [.int k] (.bool (one k)):=okOf mixed p130 fun A P hA hP=>(by
  have h:=ok131 k
  obtain ⟨c,hc⟩: ∃r,r=two k:=⟨_,rfl⟩
  obtain ⟨r,hr⟩: ∃r,r=one k:=⟨_,rfl⟩
  rw [<-hc] at h
  rw [one,<-hc] at hr
  rw [<-show r=one k by rw [hr,one,hc]]
  clear hc
  cbv
  repeat' first | with_reducible rfl | with_reducible refine And.intro ?_ ?_ | ((with_reducible intro hcc);first | (cases hcc;done) | skip) | ((with_reducible first | show goC _ _ _ _ _ _ _ _ | show goOps _ _ _ _ _ | show goD _ _ _ _ _ _);cbv) | ((with_reducible show okWr _ _=_);rfl) | ((with_reducible first | refine callK_f hA hP h ?_ ?_ ?_);exact rfl;exact rfl;cbv) | ((with_reducible first | refine hA.fin_pl _ _ _ ?_ | refine hA.alt _ _ (Or.inl ?_) | refine hA.gb0 true _ ?_ | refine hA.gb0 false _ ?_ | refine hA.gb _ _ fun vb hvb=>?_);cbv) | (simp only [hA.lits];cbv)
  all_goals try simp only [hA.ar,inR,n_cast,Int.ofNat_eq_natCast,Option.getD_some,Option.getD_none] at *
  all_goals first | trivial | exact gg1 _ | exact gg2 _ | exact gg3 _ | exact gg4 _ | exact gg5 _ | (clear hr;split <;>first | rfl | trivial | assumption | (simp_all;done)) | (rw [hr];clear h;grind) | (trace_state;fail))
theorem ok174 (k:Int):Plain Try.prog 174 [.int k] (.bool (mat k)):=okOf mixed p174 fun A P hA hP=>(by
  have h:=ok131 k
  obtain ⟨c,hc⟩: ∃r,r=two k:=⟨_,rfl⟩
  obtain ⟨r,hr⟩: ∃r,r=mat k:=⟨_,rfl⟩
  rw [<-hc] at h
  rw [mat,<-hc] at hr
  rw [<-show r=mat k by rw [hr,mat,hc]]
  clear hc
  cbv
  repeat' first | with_reducible rfl | with_reducible refine And.intro ?_ ?_ | ((with_reducible intro hcc);first | (cases hcc;done) | skip) | ((with_reducible first | show goC _ _ _ _ _ _ _ _ | show goOps _ _ _ _ _ | show goD _ _ _ _ _ _);cbv) | ((with_reducible show okWr _ _=_);rfl) | ((with_reducible first | refine callK_f hA hP h ?_ ?_ ?_);exact rfl;exact rfl;cbv) | ((with_reducible first | refine hA.fin_pl _ _ _ ?_ | refine hA.alt _ _ (Or.inl ?_) | refine hA.gb0 true _ ?_ | refine hA.gb0 false _ ?_ | refine hA.gb _ _ fun vb hvb=>?_);cbv) | (simp only [hA.lits];cbv)
  all_goals try simp only [hA.ar,inR,n_cast,Int.ofNat_eq_natCast,Option.getD_some,Option.getD_none] at *
  all_goals first | trivial | exact gg1 _ | exact gg2 _ | exact gg3 _ | exact gg4 _ | exact gg5 _ | (clear hr;split <;>first | rfl | trivial | assumption | (simp_all;done)) | (rw [hr];clear h;grind) | (trace_state;fail))
theorem ok96 (k:Int):Plain Try.prog 96 [.int k] (.bool (lef k)):=okOf mixed p96 fun A P hA hP=>(by
  obtain ⟨r,hr⟩: ∃r,r=lef k:=⟨_,rfl⟩
  rw [<-hr]
  cbv
  repeat' first | with_reducible rfl | with_reducible refine And.intro ?_ ?_ | ((with_reducible intro hcc);first | (cases hcc;done) | skip) | ((with_reducible first | show goC _ _ _ _ _ _ _ _ | show goOps _ _ _ _ _ | show goD _ _ _ _ _ _);cbv) | ((with_reducible show okWr _ _=_);rfl) | ((with_reducible first | refine hA.fin_pl _ _ _ ?_ | refine hA.alt _ _ (Or.inl ?_) | refine hA.gb0 true _ ?_ | refine hA.gb0 false _ ?_ | refine hA.gb _ _ fun vb hvb=>?_);cbv) | (simp only [hA.lits];cbv)
  all_goals try simp only [hA.ar,inR,n_cast,Int.ofNat_eq_natCast,Option.getD_some,Option.getD_none] at *
  all_goals first | trivial | exact gg1 _ | exact gg2 _ | exact gg3 _ | exact gg4 _ | exact gg5 _ | (clear hr;split <;>first | rfl | trivial | assumption | (simp_all;done)) | (rw [hr,lef];grind) | (trace_state;fail))
theorem ok97 (k:Int):Plain Try.prog 97 [.int k] (.bool (rig k)):=okOf mixed p97 fun A P hA hP=>(by
  obtain ⟨r,hr⟩: ∃r,r=rig k:=⟨_,rfl⟩
  rw [<-hr]
  cbv
  repeat' first | with_reducible rfl | with_reducible refine And.intro ?_ ?_ | ((with_reducible intro hcc);first | (cases hcc;done) | skip) | ((with_reducible first | show goC _ _ _ _ _ _ _ _ | show goOps _ _ _ _ _ | show goD _ _ _ _ _ _);cbv) | ((with_reducible show okWr _ _=_);rfl) | ((with_reducible first | refine hA.fin_pl _ _ _ ?_ | refine hA.alt _ _ (Or.inl ?_) | refine hA.gb0 true _ ?_ | refine hA.gb0 false _ ?_ | refine hA.gb _ _ fun vb hvb=>?_);cbv) | (simp only [hA.lits];cbv)
  all_goals try simp only [hA.ar,inR,n_cast,Int.ofNat_eq_natCast,Option.getD_some,Option.getD_none] at *
  all_goals first | trivial | exact gg1 _ | exact gg2 _ | exact gg3 _ | exact gg4 _ | exact gg5 _ | (clear hr;split <;>first | rfl | trivial | assumption | (simp_all;done)) | (rw [hr,rig];grind) | (trace_state;fail))
theorem ok179 (k:Int):Plain Try.prog 179 [.int k] (.bool (mtc k)):=okOf mixed p179 fun A P hA hP=>(by
  obtain ⟨r,hr⟩: ∃r,r=mtc k:=⟨_,rfl⟩
  rw [<-hr]
  cbv
  repeat' first | with_reducible rfl | with_reducible refine And.intro ?_ ?_ | ((with_reducible intro hcc);first | (cases hcc;done) | skip) | ((with_reducible first | show goC _ _ _ _ _ _ _ _ | show goOps _ _ _ _ _ | show goD _ _ _ _ _ _);cbv) | ((with_reducible show okWr _ _=_);rfl) | ((with_reducible first | refine hA.fin_pl _ _ _ ?_ | refine hA.alt _ _ (Or.inl ?_) | refine hA.gb0 true _ ?_ | refine hA.gb0 false _ ?_ | refine hA.gb _ _ fun vb hvb=>?_);cbv) | (simp only [hA.lits];cbv)
  all_goals try simp only [hA.ar,inR,n_cast,Int.ofNat_eq_natCast,Option.getD_some,Option.getD_none] at *
  all_goals first | trivial | exact gg1 _ | exact gg2 _ | exact gg3 _ | exact gg4 _ | exact gg5 _ | (clear hr;split <;>first | rfl | trivial | assumption | (simp_all;done)) | (rw [hr,mtc];grind) | (trace_state;fail))
theorem ok175 (K T M W:Int) (x y:List (List E)) (L R:Int):Plain Try.prog 175 [.agg [.int K,.int T,.int M,.int W,.e (.sl x),.e (.sl y),.int L,.int R]] (.bool (usS K M)):=okOf mixed p175 fun A P hA hP=>(by
  obtain ⟨r,hr⟩: ∃r,r=usS K M:=⟨_,rfl⟩
  rw [<-hr]
  cbv
  repeat' first | with_reducible rfl | with_reducible refine And.intro ?_ ?_ | ((with_reducible intro hcc);first | (cases hcc;done) | skip) | ((with_reducible first | show goC _ _ _ _ _ _ _ _ | show goOps _ _ _ _ _ | show goD _ _ _ _ _ _);cbv) | ((with_reducible show okWr _ _=_);rfl) | ((with_reducible first | refine hA.fin_pl _ _ _ ?_ | refine hA.alt _ _ (Or.inl ?_) | refine hA.gb0 true _ ?_ | refine hA.gb0 false _ ?_ | refine hA.gb _ _ fun vb hvb=>?_);cbv) | (simp only [hA.lits];cbv)
  all_goals try simp only [hA.ar,inR,n_cast,Int.ofNat_eq_natCast,Option.getD_some,Option.getD_none] at *
  all_goals first | trivial | exact gg1 _ | exact gg2 _ | exact gg3 _ | exact gg4 _ | exact gg5 _ | (clear hr;split <;>first | rfl | trivial | assumption | (simp_all;done)) | (rw [hr,usS];grind) | (clear hr;grind) | (trace_state;fail))
theorem ok180 (K T M W:Int) (x y:List (List E)) (L R:Int):Plain Try.prog 180 [.agg [.int K,.int T,.int M,.int W,.e (.sl x),.e (.sl y),.int L,.int R]] (.bool (usI K M)):=okOf mixed p180 fun A P hA hP=>(by
  obtain ⟨r,hr⟩: ∃r,r=usI K M:=⟨_,rfl⟩
  rw [<-hr]
  cbv
  repeat' first | with_reducible rfl | with_reducible refine And.intro ?_ ?_ | ((with_reducible intro hcc);first | (cases hcc;done) | skip) | ((with_reducible first | show goC _ _ _ _ _ _ _ _ | show goOps _ _ _ _ _ | show goD _ _ _ _ _ _);cbv) | ((with_reducible show okWr _ _=_);rfl) | ((with_reducible first | refine hA.fin_pl _ _ _ ?_ | refine hA.alt _ _ (Or.inl ?_) | refine hA.gb0 true _ ?_ | refine hA.gb0 false _ ?_ | refine hA.gb _ _ fun vb hvb=>?_);cbv) | (simp only [hA.lits];cbv)
  all_goals try simp only [hA.ar,inR,n_cast,Int.ofNat_eq_natCast,Option.getD_some,Option.getD_none] at *
  all_goals first | trivial | exact gg1 _ | exact gg2 _ | exact gg3 _ | exact gg4 _ | exact gg5 _ | (clear hr;split <;>first | rfl | trivial | assumption | (simp_all;done)) | (rw [hr,usI];grind) | (clear hr;grind) | (trace_state;fail))
end Go.Proofs.Ytfplalbognalkaa.Ab
/- Flat plans: the fields of a node. -/
namespace Go.Proofs.Ytfplalbognalkaa.Ab
open Go
set_option maxRecDepth 100000 in
theorem ok178 (on:Bool) (p i:Int):Proc Try.prog 178 (fun t=> [.bool on,.int p,.ref (t 0) 0]) (fun _=> [.box [.int i]]) (fun _=> .bool (plc on p i)) (fun _=> [.box [.int i]]):=by
  obtain ⟨r,hr⟩: ∃r,r=plc on p i:=⟨_,rfl⟩
  rw [<-hr]
  unfold plc at hr
  refine procOf mixed p178 (ibox_side (fun t=>rfl) rfl (fun t=>rfl)) fun A P hA hP=>?_
  cases on
  all_goals
    cbv
    repeat' first | with_reducible rfl | with_reducible refine And.intro ?_ ?_ | ((with_reducible intro hcc);first | (cases hcc;done) | skip) | ((with_reducible first | show goC _ _ _ _ _ _ _ _ | show goOps _ _ _ _ _ | show goD _ _ _ _ _ _);cbv) | ((with_reducible show okWr _ _=_);rfl) | ((with_reducible first | refine hA.fin_pl _ _ _ ?_ | refine hA.alt _ _ (Or.inl ?_) | refine hA.gb0 true _ ?_ | refine hA.gb0 false _ ?_ | refine hA.gb _ _ fun vb hvb=>?_);cbv) | (simp only [hA.lits];cbv)
    all_goals try simp only [hA.ar,inR,n_cast,Int.ofNat_eq_natCast,Option.getD_some,Option.getD_none] at *
    all_goals first
      | trivial
      | exact gg1 _
      | exact gg2 _
      | exact gg3 _
      | exact gg4 _
      | exact gg5 _
      | (clear hr;split <;>first | rfl | trivial | assumption | (simp_all;done))
      | (refine ibox_fin hA rfl ?_ (fun _=>rfl) fun _=>rfl;congr 3;rw [hr];grind)
      | (trace_state;fail)
theorem fok315:fOK Try.prog 178:=⟨_,Try.func178,by decide,rfl⟩
set_option maxRecDepth 100000 in
set_option maxHeartbeats 4000000 in
theorem ok136 (K T M W:Int) (Ex:List (Int×Int)) (Exs:List (List (Int×Int))) (L R:Int) (x y:List (List E)) (hx:x=Ex.map orow) (hy:y=Exs.map orr) (i:Int):Plain Try.prog 136 [.agg [.int K,.int T,.int M,.int W,.e (.sl x),.e (.sl y),.int L,.int R],.int i] (.bool (fldI ⟨K,T,M,W,Ex,Exs,L,R⟩ i)):=okOf mixed p136 fun A P hA hP=>(by
  obtain ⟨zx,hzx⟩: ∃z:Int,z=x.length:=⟨_,rfl⟩
  obtain ⟨zy,hzy⟩: ∃z:Int,z=y.length:=⟨_,rfl⟩
  have hfo: ∃func,P.funcs[178]?=some func/\ ¬func.name= "runtime.NumGoroutine" /\func.body.isNone=false:=hP▸fok315
  have hF:True:=trivial
  obtain ⟨r,hr⟩: ∃r,r=fldI ⟨K,T,M,W,Ex,Exs,L,R⟩ i:=⟨_,rfl⟩
  rw [<-hr]
  obtain ⟨e0,he0⟩: ∃b,b=decide (Ex= []):=⟨_,rfl⟩
  have ve0:A.eq zx 0=e0:=by rw [hA.eq,he0,hzx,fl0 hx]
  obtain ⟨y0,hy0⟩: ∃b,b=decide (Exs= []):=⟨_,rfl⟩
  have vy0:A.eq zy 0=y0:=by rw [hA.eq,hy0,hzy,fl0 hy]
  have h257:=ok96 K
  obtain ⟨b1,hb1⟩: ∃b,b=lef K:=⟨_,rfl⟩
  rw [<-hb1] at h257
  have h258:=ok97 K
  obtain ⟨b2,hb2⟩: ∃b,b=rig K:=⟨_,rfl⟩
  rw [<-hb2] at h258
  have h316:=ok179 K
  obtain ⟨b3,hb3⟩: ∃b,b=mtc K:=⟨_,rfl⟩
  rw [<-hb3] at h316
  have h317:=ok180 K T M W x y L R
  obtain ⟨b4,hb4⟩: ∃b,b=usI K M:=⟨_,rfl⟩
  rw [<-hb4] at h317
  have hL:=ok178 b1 L i
  obtain ⟨q1,hq1⟩: ∃b,b=plc b1 L i:=⟨_,rfl⟩
  rw [<-hq1] at hL
  have hR:=ok178 b2 R i
  obtain ⟨q2,hq2⟩: ∃b,b=plc b2 R i:=⟨_,rfl⟩
  rw [<-hq2] at hR
  obtain ⟨c1,hc1⟩: ∃b,b=decide (K<1):=⟨_,rfl⟩
  have vc1:A.lt K 1=c1:=by rw [hA.lt,hc1]
  obtain ⟨c2,hc2⟩: ∃b,b=decide (11<K):=⟨_,rfl⟩
  have vc2:A.lt 11 K=c2:=by rw [hA.lt,hc2]
  obtain ⟨k2,hk2⟩: ∃b,b=decide (K=2):=⟨_,rfl⟩
  have vk2:A.eq K 2=k2:=by rw [hA.eq,hk2]
  obtain ⟨k7,hk7⟩: ∃b,b=decide (K=7):=⟨_,rfl⟩
  have vk7:A.eq K 7=k7:=by rw [hA.eq,hk7]
  obtain ⟨k4,hk4⟩: ∃b,b=decide (K=4):=⟨_,rfl⟩
  have vk4:A.eq K 4=k4:=by rw [hA.eq,hk4]
  obtain ⟨t0,ht0⟩: ∃b,b=decide (T=0):=⟨_,rfl⟩
  have vt0:A.eq T 0=t0:=by rw [hA.eq,ht0]
  obtain ⟨m0,hm0⟩: ∃b,b=decide (M=0):=⟨_,rfl⟩
  have vm0:A.eq M 0=m0:=by rw [hA.eq,hm0]
  obtain ⟨w0,hw0⟩: ∃b,b=decide (W=0):=⟨_,rfl⟩
  have vw0:A.eq W 0=w0:=by rw [hA.eq,hw0]
  obtain ⟨m1,hm1⟩: ∃b,b=decide (M<1):=⟨_,rfl⟩
  have vm1:A.lt M 1=m1:=by rw [hA.lt,hm1]
  obtain ⟨m4,hm4⟩: ∃b,b=decide (4<M):=⟨_,rfl⟩
  have vm4:A.lt 4 M=m4:=by rw [hA.lt,hm4]
  have g1:decide (1<=K/\K<=11)=(!c1&&!c2):=by rw [hc1,hc2,Bool.eq_iff_iff];simp
  have g2:decide (1<=M/\M<=4)=(!m1&&!m4):=by rw [hm1,hm4,Bool.eq_iff_iff];simp
  have hr2:r=((!c1&&!c2)&&(q1&&(q2&&((k2 || t0)&&((k7 || m0)&&((b3 || w0)&&((!k7 || (!m1&&!m4))&&((b4 || e0)&&(k4 || y0))))))))):=by
    rw [hr,<-g1,<-g2,hq1,hq2,hk2,ht0,hk7,hm0,hb3,hw0,hb4,he0,hk4,hy0,hb1,hb2]
    rfl
  clear hr hc1 hc2 hk2 hk7 hk4 ht0 hm0 hw0 hm1 hm4 g1 g2 hq1 hq2 hb1 hb2 hb3 hb4 he0 hy0 hx hy
  cbv
  repeat' first | with_reducible rfl | (simp only [vc1,vc2,vk2,vk7,vk4,vt0,vm0,vw0,vm1,vm4,ve0,vy0];cbv) | with_reducible refine And.intro ?_ ?_ | ((with_reducible intro hcc);first | (cases hcc;done) | skip) | ((with_reducible first | show goC _ _ _ _ _ _ _ _ | show goOps _ _ _ _ _ | show goD _ _ _ _ _ _);cbv) | ((with_reducible show okWr _ _=_);rfl) | ((with_reducible first | refine callK_f hA hP h257 ?_ ?_ ?_ | refine callK_f hA hP h258 ?_ ?_ ?_ | refine callK_f hA hP h316 ?_ ?_ ?_ | refine callK_f hA hP h317 ?_ ?_ ?_);exact rfl;exact rfl;cbv) | ((with_reducible refine hA.len x _ _ _ _ fun z hz hb=>?_);(have e6:=hzx.trans hz.symm);subst e6;cbv) | ((with_reducible refine hA.len y _ _ _ _ fun z hz hb=>?_);(have e6:=hzy.trans hz.symm);subst e6;cbv) | ((with_reducible show A.call _ _ _ _ _ 178 _ _ _);have hc:=hL;refine callK_ro hA hP [1] (by rfl) (by exact ⟨rfl,trivial⟩) (Wks.refl _) ?_ (fun _ _=>hc) hc.side;cbv) | ((with_reducible show A.call _ _ _ _ _ 178 _ _ _);have hc:=hR;refine callK_ro hA hP [1] (by rfl) (by exact ⟨rfl,trivial⟩) (Wks.refl _) ?_ (fun _ _=>hc) hc.side;cbv) | ((with_reducible first | refine hA.fin_pl _ _ _ ?_ | refine hA.len _ _ _ _ _ fun z hz hb=>?_ | refine hA.alt _ _ (Or.inl ?_) | refine hA.gb0 true _ ?_ | refine hA.gb0 false _ ?_ | refine hA.gb _ _ fun vb hvb=>?_);cbv) | (simp only [hA.lits];cbv)
  all_goals try simp only [hA.ar,inR,n_cast,Int.ofNat_eq_natCast,Option.getD_some,Option.getD_none] at *
  all_goals (clear h257 h258 h316 h317 hL hR)
  all_goals first
    | exact hfo
    | trivial
    | exact gg1 _
    | exact gg2 _
    | exact gg3 _
    | exact gg4 _
    | exact gg5 _
    | (clear hr2 hfo;split <;>first | rfl | trivial | assumption | (simp_all;done))
    | (rw [hr2];clear hr2 hfo;grind)
    | (clear hr2 hfo;grind)
    | (trace_state;fail))
end Go.Proofs.Ytfplalbognalkaa.Ab
/- Flat plans: the fields of a node, by the specification. -/
namespace Go.Proofs.Ytfplalbognalkaa.Ab
open Go
set_option maxRecDepth 100000 in
set_option maxHeartbeats 4000000 in
theorem ok129 (K T M W:Int) (Ex:List (Int×Int)) (Exs:List (List (Int×Int))) (L R:Int) (x y:List (List E)) (hx:x=Ex.map orow) (hy:y=Exs.map orr) (i:Int) (xt:List (List E)):Plain Try.prog 129 [.agg [.int K,.int T,.int M,.int W,.e (.sl x),.e (.sl y),.int L,.int R],.int i,.agg [.e (.sl xt)]] (.bool (fldS ⟨K,T,M,W,Ex,Exs,L,R⟩ i xt.length)):=okOf mixed p129 fun A P hA hP=>(by
  obtain ⟨zx,hzx⟩: ∃z:Int,z=x.length:=⟨_,rfl⟩
  obtain ⟨zy,hzy⟩: ∃z:Int,z=y.length:=⟨_,rfl⟩
  obtain ⟨zt,hzt⟩: ∃z:Int,z=xt.length:=⟨_,rfl⟩
  obtain ⟨r,hr⟩: ∃r,r=fldS ⟨K,T,M,W,Ex,Exs,L,R⟩ i xt.length:=⟨_,rfl⟩
  rw [<-hr]
  rw [<-hzt] at hr
  obtain ⟨e0,he0⟩: ∃b,b=decide (Ex= []):=⟨_,rfl⟩
  have ve0:A.eq zx 0=e0:=by rw [hA.eq,he0,hzx,fl0 hx]
  obtain ⟨y0,hy0⟩: ∃b,b=decide (Exs= []):=⟨_,rfl⟩
  have vy0:A.eq zy 0=y0:=by rw [hA.eq,hy0,hzy,fl0 hy]
  have h280:=ok130 K
  obtain ⟨b1,hb1⟩: ∃b,b=one K:=⟨_,rfl⟩
  rw [<-hb1] at h280
  have h281:=ok131 K
  obtain ⟨b2,hb2⟩: ∃b,b=two K:=⟨_,rfl⟩
  rw [<-hb2] at h281
  have h312:=ok174 K
  obtain ⟨b3,hb3⟩: ∃b,b=mat K:=⟨_,rfl⟩
  rw [<-hb3] at h312
  have h313:=ok175 K T M W x y L R
  obtain ⟨b4,hb4⟩: ∃b,b=usS K M:=⟨_,rfl⟩
  rw [<-hb4] at h313
  obtain ⟨c1,hc1⟩: ∃b,b=decide (K<1):=⟨_,rfl⟩
  have vc1:A.lt K 1=c1:=by rw [hA.lt,hc1]
  obtain ⟨c2,hc2⟩: ∃b,b=decide (11<K):=⟨_,rfl⟩
  have vc2:A.lt 11 K=c2:=by rw [hA.lt,hc2]
  obtain ⟨k2,hk2⟩: ∃b,b=decide (K=2):=⟨_,rfl⟩
  have vk2:A.eq K 2=k2:=by rw [hA.eq,hk2]
  obtain ⟨k7,hk7⟩: ∃b,b=decide (K=7):=⟨_,rfl⟩
  have vk7:A.eq K 7=k7:=by rw [hA.eq,hk7]
  obtain ⟨k4,hk4⟩: ∃b,b=decide (K=4):=⟨_,rfl⟩
  have vk4:A.eq K 4=k4:=by rw [hA.eq,hk4]
  obtain ⟨tn,htn⟩: ∃b,b=decide (T<0):=⟨_,rfl⟩
  have vtn:A.lt T 0=tn:=by rw [hA.lt,htn]
  obtain ⟨tb,htb⟩: ∃b,b=decide (zt<=T):=⟨_,rfl⟩
  have vtb:A.le zt T=tb:=by rw [hA.le,htb]
  obtain ⟨t0,ht0⟩: ∃b,b=decide (T=0):=⟨_,rfl⟩
  have vt0:A.eq T 0=t0:=by rw [hA.eq,ht0]
  obtain ⟨m0,hm0⟩: ∃b,b=decide (M=0):=⟨_,rfl⟩
  have vm0:A.eq M 0=m0:=by rw [hA.eq,hm0]
  obtain ⟨w0,hw0⟩: ∃b,b=decide (W=0):=⟨_,rfl⟩
  have vw0:A.eq W 0=w0:=by rw [hA.eq,hw0]
  obtain ⟨m1,hm1⟩: ∃b,b=decide (M<1):=⟨_,rfl⟩
  have vm1:A.lt M 1=m1:=by rw [hA.lt,hm1]
  obtain ⟨m4,hm4⟩: ∃b,b=decide (4<M):=⟨_,rfl⟩
  have vm4:A.lt 4 M=m4:=by rw [hA.lt,hm4]
  obtain ⟨ln,hln⟩: ∃b,b=decide (L<0):=⟨_,rfl⟩
  have vln:A.lt L 0=ln:=by rw [hA.lt,hln]
  obtain ⟨lb,hlb⟩: ∃b,b=decide (i<=L):=⟨_,rfl⟩
  have vlb:A.le i L=lb:=by rw [hA.le,hlb]
  obtain ⟨l0,hl0⟩: ∃b,b=decide (L=0):=⟨_,rfl⟩
  have vl0:A.eq L 0=l0:=by rw [hA.eq,hl0]
  obtain ⟨rn,hrn⟩: ∃b,b=decide (R<0):=⟨_,rfl⟩
  have vrn:A.lt R 0=rn:=by rw [hA.lt,hrn]
  obtain ⟨rb,hrb⟩: ∃b,b=decide (i<=R):=⟨_,rfl⟩
  have vrb:A.le i R=rb:=by rw [hA.le,hrb]
  obtain ⟨r0,hr0⟩: ∃b,b=decide (R=0):=⟨_,rfl⟩
  have vr0:A.eq R 0=r0:=by rw [hA.eq,hr0]
  have g1:decide (1<=K/\K<=11)=(!c1&&!c2):=by rw [hc1,hc2,Bool.eq_iff_iff];simp
  have g2:decide (1<=M/\M<=4)=(!m1&&!m4):=by rw [hm1,hm4,Bool.eq_iff_iff];simp
  have g3:decide (0<=T/\T<zt)=(!tn&&!tb):=by rw [htn,htb,Bool.eq_iff_iff];simp
  have g4:decide (0<=L/\L<i)=(!ln&&!lb):=by rw [hln,hlb,Bool.eq_iff_iff];simp
  have g5:decide (0<=R/\R<i)=(!rn&&!rb):=by rw [hrn,hrb,Bool.eq_iff_iff];simp
  have hr2:r=((!c1&&!c2)&&((bif k2 then (!tn&&!tb) else t0)&&((bif k7 then (!m1&&!m4) else m0)&&((bif b1 then (!ln&&!lb) else l0)&&((bif b2 then (!rn&&!rb) else r0)&&((b3 || w0)&&((b4 || e0)&&(k4 || y0)))))))):=by
    rw [hr,<-g1,<-g2,<-g3,<-g4,<-g5]
    unfold fldS plc
    simp only [<-hb1,<-hb2,<-hb3,<-hb4,<-he0,<-hy0,<-hk4,<-hw0,<-ht0,<-hm0,<-hl0,<-hr0]
    rw [hk2,hk7]
    congr 1
    congr 1
    · by_cases h:K=2 <;>simp [h]
    congr 1
    · by_cases h:K=7 <;>simp [h]
    congr 1
    · cases b1 <;>rfl
    congr 1
    cases b2 <;>rfl
  clear hr hc1 hc2 hk2 hk7 hk4 htn htb ht0 hm0 hw0 hm1 hm4 hln hlb hl0 hrn hrb hr0 g1 g2 g3 g4 g5 hb1 hb2 hb3 hb4 he0 hy0 hx hy
  cbv
  repeat' first | with_reducible rfl | (simp only [vc1,vc2,vk2,vk7,vk4,vtn,vtb,vt0,vm0,vw0,vm1,vm4,vln,vlb,vl0,vrn,vrb,vr0,ve0,vy0];cbv) | with_reducible refine And.intro ?_ ?_ | ((with_reducible intro hcc);first | (cases hcc;done) | skip) | ((with_reducible first | show goC _ _ _ _ _ _ _ _ | show goOps _ _ _ _ _ | show goD _ _ _ _ _ _);cbv) | ((with_reducible show okWr _ _=_);rfl) | ((with_reducible first | refine callK_f hA hP h280 ?_ ?_ ?_ | refine callK_f hA hP h281 ?_ ?_ ?_ | refine callK_f hA hP h312 ?_ ?_ ?_ | refine callK_f hA hP h313 ?_ ?_ ?_);exact rfl;exact rfl;cbv) | ((with_reducible refine hA.len x _ _ _ _ fun z hz hb=>?_);(have e6:=hzx.trans hz.symm);subst e6;cbv) | ((with_reducible refine hA.len y _ _ _ _ fun z hz hb=>?_);(have e6:=hzy.trans hz.symm);subst e6;cbv) | ((with_reducible refine hA.len xt _ _ _ _ fun z hz hb=>?_);(have e6:=hzt.trans hz.symm);subst e6;cbv) | ((with_reducible first | refine hA.fin_pl _ _ _ ?_ | refine hA.len _ _ _ _ _ fun z hz hb=>?_ | refine hA.alt _ _ (Or.inl ?_) | refine hA.gb0 true _ ?_ | refine hA.gb0 false _ ?_ | refine hA.gb _ _ fun vb hvb=>?_);cbv) | (simp only [hA.lits];cbv)
  all_goals try simp only [hA.ar,inR,n_cast,Int.ofNat_eq_natCast,Option.getD_some,Option.getD_none] at *
  all_goals (clear h280 h281 h312 h313)
  all_goals first
    | trivial
    | exact gg1 _
    | exact gg2 _
    | exact gg3 _
    | exact gg4 _
    | exact gg5 _
    | (clear hr2;split <;>first | rfl | trivial | assumption | (simp_all;done))
    | (clear hr2;grind)
    | (rw [hr2];clear hr2;cases k2 <;>cases k7 <;>cases b1 <;>cases b2 <;>grind)
    | (rw [hr2];clear hr2;cases k2 <;>cases k7 <;>cases b1 <;>cases b2 <;>simp_all;done)
    | (trace_state;fail))
end Go.Proofs.Ytfplalbognalkaa.Ab
/- Flat plans: the width of a node, by the specification. -/
namespace Go.Proofs.Ytfplalbognalkaa.Ab
open Go
set_option maxRecDepth 100000 in
set_option maxHeartbeats 8000000 in
theorem ok132 (K T M W:Int) (Ex:List (Int×Int)) (Exs:List (List (Int×Int))) (L R:Int) (x y:List (List E)) (hx:x=Ex.map orow) (hy:y=Exs.map orr) (ts:List Tb) (xt:List (List E)) (hxt:xt=ts.map tbr) (l r:Int) (hl:0<=l/\l<=200) (hr0:0<=r/\r<=200) (hT:K=2->0<=T/\T<ts.length) (hxl:x.length<=1048576) (hyl:y.length<=1048576) (hel: ∀e∈Exs,e.length<=1048576):
    Plain Try.prog 132 [.agg [.int K,.int T,.int M,.int W,.e (.sl x),.e (.sl y),.int L,.int R],.agg [.e (.sl xt)],.int l,.int r] (.int (widS ⟨K,T,M,W,Ex,Exs,L,R⟩ (colsOf ts) l r)):=okOf mixed p132 fun A P hA hP=>(by
  obtain ⟨zx,hzx⟩: ∃z:Int,z=x.length:=⟨_,rfl⟩
  obtain ⟨zy,hzy⟩: ∃z:Int,z=y.length:=⟨_,rfl⟩
  obtain ⟨zt,hzt⟩: ∃z:Int,z=xt.length:=⟨_,rfl⟩
  have hyE:y.length=Exs.length:=by rw [hy];simp
  have hxT:xt.length=ts.length:=by rw [hxt];simp
  obtain ⟨res,hres⟩: ∃v:Int,v=widS ⟨K,T,M,W,Ex,Exs,L,R⟩ (colsOf ts) l r:=⟨_,rfl⟩
  rw [<-hres]
  unfold widS at hres
  have h312:=ok174 K
  obtain ⟨b3,hb3⟩: ∃b,b=mat K:=⟨_,rfl⟩
  rw [<-hb3] at h312
  have h313:=ok175 K T M W x y L R
  obtain ⟨b4,hb4⟩: ∃b,b=usS K M:=⟨_,rfl⟩
  rw [<-hb4] at h313
  obtain ⟨se,hse⟩: ∃s,s=if K=3 then l else r:=⟨_,rfl⟩
  have h31:=ok144 Ex x hx hxl se
  obtain ⟨ex,hex⟩: ∃b,b=exOk Ex se:=⟨_,rfl⟩
  rw [<-hex] at h31
  obtain ⟨al,hal⟩: ∃b,b=Exs.all fun e=>exOk e l:=⟨_,rfl⟩
  simp only [<-hb3,<-hb4,<-hse,<-hex,<-hal] at hres
  obtain ⟨k1,hk1⟩: ∃b,b=decide (K=1):=⟨_,rfl⟩
  have vk1:A.eq K 1=k1:=by rw [hA.eq,hk1]
  obtain ⟨k2,hk2⟩: ∃b,b=decide (K=2):=⟨_,rfl⟩
  have vk2:A.eq K 2=k2:=by rw [hA.eq,hk2]
  obtain ⟨k3,hk3⟩: ∃b,b=decide (K=3):=⟨_,rfl⟩
  have vk3:A.eq K 3=k3:=by rw [hA.eq,hk3]
  obtain ⟨k4,hk4⟩: ∃b,b=decide (K=4):=⟨_,rfl⟩
  have vk4:A.eq K 4=k4:=by rw [hA.eq,hk4]
  obtain ⟨k5,hk5⟩: ∃b,b=decide (K=5):=⟨_,rfl⟩
  have vk5:A.eq K 5=k5:=by rw [hA.eq,hk5]
  obtain ⟨k6,hk6⟩: ∃b,b=decide (K=6):=⟨_,rfl⟩
  have vk6:A.eq K 6=k6:=by rw [hA.eq,hk6]
  obtain ⟨k7,hk7⟩: ∃b,b=decide (K=7):=⟨_,rfl⟩
  have vk7:A.eq K 7=k7:=by rw [hA.eq,hk7]
  obtain ⟨k9,hk9⟩: ∃b,b=decide (K=9):=⟨_,rfl⟩
  have vk9:A.eq K 9=k9:=by rw [hA.eq,hk9]
  obtain ⟨wn,hwn⟩: ∃b,b=decide (W<0):=⟨_,rfl⟩
  have vwn:A.lt W 0=wn:=by rw [hA.lt,hwn]
  obtain ⟨wl,hwl⟩: ∃b,b=decide (l<W):=⟨_,rfl⟩
  have vwl:A.lt l W=wl:=by rw [hA.lt,hwl]
  obtain ⟨wr,hwr⟩: ∃b,b=decide (r<W):=⟨_,rfl⟩
  have vwr:A.lt r W=wr:=by rw [hA.lt,hwr]
  obtain ⟨lr,hlr⟩: ∃b,b=decide (l=r):=⟨_,rfl⟩
  have vlr:A.eq l r=lr:=by rw [hA.eq,hlr]
  by_cases c1:K=1
  · have e1:k1=true:=by rw [hk1];exact decide_eq_true c1
    rw [if_pos c1] at hres
    rw [e1] at vk1
    cbv
    repeat' first | with_reducible rfl | (simp only [vk1];cbv) | with_reducible refine And.intro ?_ ?_ | ((with_reducible intro hcc);first | (cases hcc;done) | skip) | ((with_reducible first | show goC _ _ _ _ _ _ _ _ | show goOps _ _ _ _ _ | show goD _ _ _ _ _ _);cbv) | ((with_reducible show okWr _ _=_);rfl) | ((with_reducible first | refine hA.fin_pl _ _ _ ?_ | refine hA.len _ _ _ _ _ fun z hz hb=>?_ | refine hA.off _ _ _ _ fun b hb=>?_ | refine hA.plus _ _ _ fun b hb=>?_ | refine hA.alt _ _ (Or.inl ?_) | refine hA.gb0 true _ ?_ | refine hA.gb0 false _ ?_ | refine hA.gb _ _ fun vb hvb=>?_);cbv) | ((with_reducible first | refine hA.sapp _ _ _ ⟨?_,fun sl hsl=>?_⟩);rotate_left;cbv) | (simp only [hA.lits];cbv)
    all_goals try simp only [hA.ar,inR,n_cast,Int.ofNat_eq_natCast,Option.getD_some,Option.getD_none] at *
    all_goals first | trivial | (rw [hres];done) | (trace_state;fail)
  rw [if_neg c1] at hres
  have e1:k1=false:=by rw [hk1];exact decide_eq_false c1
  rw [e1] at vk1
  by_cases c2:K=2
  · have e2:k2=true:=by rw [hk2];exact decide_eq_true c2
    rw [e2] at vk2
    have hTr:(0:Int)<=T/\T<xt.length:=by have:=hT c2;omega
    obtain ⟨p,q1,q2⟩:=row_at hxt hTr
    obtain ⟨ps,hps⟩: ∃s,s=p.1:=⟨_,rfl⟩
    obtain ⟨pm,hpm⟩: ∃s,s=p.2.1:=⟨_,rfl⟩
    obtain ⟨px,hpx⟩: ∃s,s=p.2.2.map rsr:=⟨_,rfl⟩
    have q3:xt.getD T.toNat []= [E.str ps,E.int pm,E.sl px]:=by rw [q1,hps,hpm,hpx]
    have hrr:res=pm:=by rw [hres,if_pos c2,colsOf,hpm];simp [List.getD,q2]
    cbv
    repeat' first | with_reducible rfl | (simp only [vk1,vk2];cbv) | with_reducible refine And.intro ?_ ?_ | ((with_reducible intro hcc);first | (cases hcc;done) | skip) | ((with_reducible first | show goC _ _ _ _ _ _ _ _ | show goOps _ _ _ _ _ | show goD _ _ _ _ _ _);cbv) | ((with_reducible show okWr _ _=_);rfl) | ((with_reducible refine hA.row xt T _ ⟨hTr,fun row hrow=>?_⟩);rw [q3] at hrow;subst hrow;cbv) | ((with_reducible first | refine hA.fin_pl _ _ _ ?_ | refine hA.len _ _ _ _ _ fun z hz hb=>?_ | refine hA.off _ _ _ _ fun b hb=>?_ | refine hA.plus _ _ _ fun b hb=>?_ | refine hA.alt _ _ (Or.inl ?_) | refine hA.gb0 true _ ?_ | refine hA.gb0 false _ ?_ | refine hA.gb _ _ fun vb hvb=>?_);cbv) | ((with_reducible first | refine hA.sapp _ _ _ ⟨?_,fun sl hsl=>?_⟩);rotate_left;cbv) | (simp only [hA.lits];cbv)
    all_goals try simp only [hA.ar,inR,n_cast,Int.ofNat_eq_natCast,Option.getD_some,Option.getD_none] at *
    all_goals first | trivial | (rw [hrr];done) | (trace_state;fail)
  rw [if_neg c2] at hres
  have e2:k2=false:=by rw [hk2];exact decide_eq_false c2
  rw [e2] at vk2
  have f1:(b3&&(wn || (wl || wr)))=true->res= -1:=fun h=>by
    rw [hres,if_pos]
    rw [hwn,hwl,hwr] at h
    simp at h
    exact h
  have f2:(b3&&(wn || (wl || wr)))=false->res=if (b4&&!ex)=true then-1 else if al=false then-1 else if K=4 then (Exs.length:Int) else if K=5 then l+r-W else if K=6\/K=7 then l+1 else if K=9/\l≠r then-1 else l:=fun h=>by
    rw [hres,if_neg]
    · cases b4 <;>cases ex <;>rfl
    · rw [hwn,hwl,hwr] at h
      intro h2
      have:(b3&&(decide (W<0) || (decide (l<W) || decide (r<W))))=true:=by simp;exact h2
      rw [h] at this;cases this
  have hW:(b3&&(wn || (wl || wr)))=false->k5=true->0<=W/\W<=l:=fun h h5=>by
    have:K=5:=by rw [hk5] at h5;exact of_decide_eq_true h5
    have:b3=true:=by rw [hb3,this];rfl
    rw [this,Bool.true_and,Bool.or_eq_false_iff,Bool.or_eq_false_iff,hwn,hwl] at h
    have h1:=of_decide_eq_false h.1
    have h2:=of_decide_eq_false h.2.1
    omega
  have hk3':(k3=true->se=l)/\(k3=false->se=r):=by
    rw [hk3,hse]
    constructor
    · intro h;rw [if_pos (of_decide_eq_true h)]
    · intro h;rw [if_neg (of_decide_eq_false h)]
  have hfin: ∀v:Int,(v=if K=4 then (Exs.length:Int) else if K=5 then l+r-W else if K=6\/K=7 then l+1 else if K=9/\l≠r then-1 else l)->
      (k4=true->v=zy)/\(k4=false->k5=true->v=l+r-W)/\(k4=false->k5=false->(k6 || k7)=true->v=l+1)/\(k4=false->k5=false->(k6 || k7)=false->(k9&&!lr)=true->v= -1)/\(k4=false->k5=false->(k6 || k7)=false->(k9&&!lr)=false->v=l):=fun v hv=>by
    rw [hk4,hk5,hk6,hk7,hk9,hlr,hzy,hyE,hv]
    clear hv hres f1 f2
    refine ⟨fun a=>?_,fun a b=>?_,fun a b c=>?_,fun a b c d=>?_,fun a b c d=>?_⟩
    all_goals simp only [decide_eq_true_eq,decide_eq_false_iff_not,Bool.or_eq_true,Bool.or_eq_false_iff,Bool.and_eq_true,Bool.not_eq_true',Bool.and_eq_false_imp,Bool.not_eq_false'] at *
    all_goals grind
  clear hres hex hk1 hk2 hk3 hk4 hk5 hk6 hk7 hk9 hwn hwl hwr hlr hse hb3 hb4 c1 c2 hT e1 e2
  cases k3
  all_goals
    have hsv:=by first | exact (hk3'.1 rfl).symm | exact (hk3'.2 rfl).symm
    clear hk3'
    subst hsv
    cbv
    repeat' first | with_reducible rfl | (simp only [vk1,vk2,vk3,vwn,vwl,vwr];cbv) | with_reducible refine And.intro ?_ ?_ | ((with_reducible intro hcc);first | (cases hcc;done) | skip) | ((with_reducible first | show goC _ _ _ _ _ _ _ _ | show goOps _ _ _ _ _ | show goD _ _ _ _ _ _);cbv) | ((with_reducible show okWr _ _=_);rfl) | ((with_reducible first | refine callK_f hA hP h312 ?_ ?_ ?_ | refine callK_f hA hP h313 ?_ ?_ ?_ | refine callK_f hA hP h31 ?_ ?_ ?_);exact rfl;exact rfl;cbv) | ((with_reducible first | refine hA.fin_pl _ _ _ ?_ | refine hA.len _ _ _ _ _ fun z hz hb=>?_ | refine hA.off _ _ _ _ fun b hb=>?_ | refine hA.plus _ _ _ fun b hb=>?_ | refine hA.alt _ _ (Or.inl ?_) | refine hA.gb0 true _ ?_ | refine hA.gb0 false _ ?_ | refine hA.gb _ _ fun vb hvb=>?_);cbv) | ((with_reducible first | refine hA.sapp _ _ _ ⟨?_,fun sl hsl=>?_⟩);rotate_left;cbv) | (simp only [hA.lits];cbv)
    all_goals try simp only [hA.ar,inR,n_cast,Int.ofNat_eq_natCast,Option.getD_some,Option.getD_none] at *
    all_goals try first
      | trivial
      | exact gg1 _
      | exact gg2 _
      | exact gg3 _
      | exact gg4 _
      | exact gg5 _
      | exact gg6 _ _
      | (clear f1 f2 hfin hW h31 h312 h313 hal;split <;>first | rfl | trivial | assumption | (simp_all;done))
      | (rw [f1 (by clear f1 f2 hfin hW h31 h312 h313 hal;grind)];done)
      | (rw [f2 (by clear f1 f2 hfin hW h31 h312 h313 hal;grind),if_pos (by clear f1 f2 hfin hW h31 h312 h313 hal;grind)];done)
    have g1:(b3&&(wn || (wl || wr)))=false:=by clear f1 f2 hfin hW h31 h312 h313 hal;grind
    have g2: ¬(b4&&!ex)=true:=by clear f1 f2 hfin hW h31 h312 h313 hal;grind
    have hr2:=f2 g1
    rw [if_neg g2] at hr2
    have hW:=hW g1
    have vk4:A.eq K 4=k4:=by rw [hA.eq];exact vk4
    have vk5:A.eq K 5=k5:=by rw [hA.eq];exact vk5
    have vk6:A.eq K 6=k6:=by rw [hA.eq];exact vk6
    have vk7:A.eq K 7=k7:=by rw [hA.eq];exact vk7
    have vk9:A.eq K 9=k9:=by rw [hA.eq];exact vk9
    have vlr:A.eq l r=lr:=by rw [hA.eq];exact vlr
    clear f1 f2 g1 g2 h31 h312 h313
    refine hA.loopI (fun m s=> ∃(k:Int),0<=k/\m+k=y.length/\(∀(j:Nat) e,(j:Int)<k->Exs[j]?=some e->exOk e l=true)/\s=⟨[(10,.int k),(4,.ref 0 0),(2,.int l),(3,.int r),(8,.int 0)], [.box [.int K,.int T,.int M,.int W,.e (.sl x),.e (.sl y),.int L,.int R],.box [.e (.sl xt)]]⟩) y.length _
      (Weak.keep (env':= [(10,.int 0),(4,.ref 0 0),(2,.int l),(3,.int r),(8,.int 0)]) ⟨rfl,rfl,rfl,rfl,rfl,trivial⟩) ⟨0,by omega,by omega,fun j e h=>by omega,rfl⟩ ?_
    rintro m s Kk ⟨k,i0,i1,i2,rfl⟩ hKk
    by_cases hk:(0:Int)<=k/\k<y.length
    · obtain ⟨e,q1,q2⟩:=ors_at hy hk
      obtain ⟨xe,hxe⟩: ∃x,x=e.map orow:=⟨_,rfl⟩
      have q1:y.getD k.toNat []= [E.sl xe]:=q1.trans (by rw [hxe])
      have h31:=ok144 e xe hxe (by rw [hxe,List.length_map];exact hel _ (List.mem_of_getElem? q2)) l
      obtain ⟨eb,heb⟩: ∃b,b=exOk e l:=⟨_,rfl⟩
      rw [<-heb] at h31
      have f3:eb=false->res= -1:=fun h=>by
        rw [hr2,if_pos]
        rw [hal,Bool.eq_false_iff]
        intro h2
        have:=List.all_eq_true.1 h2 e (List.mem_of_getElem? q2)
        rw [<-heb,h] at this;cases this
      have hKk2: ∀env:List (Nat×D),eb=true->subL [(10,.int (k+1)),(4,.ref 0 0),(2,.int l),(3,.int r),(8,.int 0)] env->Kk ⟨env, [.box [.int K,.int T,.int M,.int W,.e (.sl x),.e (.sl y),.int L,.int R],.box [.e (.sl xt)]]⟩:=fun env t1 t2=>
        hKk _ (m-1) _ (by omega) (Weak.keep t2) ⟨k+1,by omega,by omega,fun j e' h1 h2=>by
          by_cases hj:(j:Int)<k
          · exact i2 j e' hj h2
          · have:j=k.toNat:=by omega
            subst this
            rw [q2] at h2;cases h2
            rw [<-heb];exact t1,rfl⟩
      clear hKk hr2 hfin hW heb i2
      cases eb
      all_goals
        cbv
        repeat' first | with_reducible rfl | with_reducible refine And.intro ?_ ?_ | ((with_reducible intro hcc);first | (cases hcc;done) | skip) | ((with_reducible first | show goC _ _ _ _ _ _ _ _ | show goOps _ _ _ _ _ | show goD _ _ _ _ _ _);cbv) | ((with_reducible show okWr _ _=_);rfl) | ((with_reducible first | refine callK_f hA hP h31 ?_ ?_ ?_);exact rfl;exact rfl;cbv) | ((with_reducible refine hA.len y _ _ _ _ fun z hz hb=>?_);(have e6:=hzy.trans hz.symm);subst e6;cbv) | ((with_reducible refine hA.row y k _ ⟨hk,fun row hrow=>?_⟩);rw [q1] at hrow;subst hrow;cbv) | ((with_reducible first | refine hA.fin_pl _ _ _ ?_ | refine hA.len _ _ _ _ _ fun z hz hb=>?_ | refine hA.off _ _ _ _ fun b hb=>?_ | refine hA.plus _ _ _ fun b hb=>?_ | refine hA.alt _ _ (Or.inl ?_) | refine hA.gb0 true _ ?_ | refine hA.gb0 false _ ?_ | refine hA.gb _ _ fun vb hvb=>?_);cbv) | ((with_reducible first | refine hA.sapp _ _ _ ⟨?_,fun sl hsl=>?_⟩);rotate_left;cbv) | (simp only [hA.lits];cbv)
        all_goals try simp only [hA.ar,inR,n_cast,Int.ofNat_eq_natCast,Option.getD_some,Option.getD_none] at *
        all_goals first
          | omega
          | (rw [f3 rfl];done)
          | (rw [f3];done)
          | (rw [f3 trivial];done)
          | exact hKk2 _ (by first | exact rfl | exact trivial) ⟨rfl,rfl,rfl,rfl,rfl,trivial⟩
          | (exfalso;clear hKk2 f3;simp only [decide_eq_true_eq,decide_eq_false_iff_not] at *;omega)
          | (trace_state;fail)
    · have ha:al=true:=by
        rw [hal]
        exact all_drop fun j a h=>i2 j a (by
          have:=(List.getElem?_eq_some_iff.1 h).1
          omega) h
      rw [ha,if_neg (by simp)] at hr2
      obtain ⟨p4,p5,p6,p9,p0⟩:=hfin res hr2
      clear hr2 hfin hKk i2 hal ha
      have e3:A.lt k zy=false:=by rw [hA.lt];exact decide_eq_false (by omega)
      cbv
      repeat' first | with_reducible rfl | (simp only [e3,vk4,vk5,vk6,vk7,vk9,vlr];cbv) | with_reducible refine And.intro ?_ ?_ | ((with_reducible intro hcc);first | (cases hcc;done) | skip) | ((with_reducible first | show goC _ _ _ _ _ _ _ _ | show goOps _ _ _ _ _ | show goD _ _ _ _ _ _);cbv) | ((with_reducible show okWr _ _=_);rfl) | ((with_reducible refine hA.len y _ _ _ _ fun z hz hb=>?_);(have e6:=hzy.trans hz.symm);subst e6;cbv) | ((with_reducible first | refine hA.fin_pl _ _ _ ?_ | refine hA.len _ _ _ _ _ fun z hz hb=>?_ | refine hA.off _ _ _ _ fun b hb=>?_ | refine hA.plus _ _ _ fun b hb=>?_ | refine hA.alt _ _ (Or.inl ?_) | refine hA.gb0 true _ ?_ | refine hA.gb0 false _ ?_ | refine hA.gb _ _ fun vb hvb=>?_);cbv) | ((with_reducible first | refine hA.sapp _ _ _ ⟨?_,fun sl hsl=>?_⟩);rotate_left;cbv) | (simp only [hA.lits];cbv)
      all_goals try simp only [hA.ar,inR,n_cast,Int.ofNat_eq_natCast,Option.getD_some,Option.getD_none] at *
      all_goals first
        | omega
        | trivial
        | exact gg1 _
        | exact gg2 _
        | exact gg3 _
        | exact gg4 _
        | exact gg5 _
        | exact gg6 _ _
        | (clear p4 p5 p6 p9 p0;split <;>first | rfl | trivial | assumption | (simp_all;done))
        | (have:=hW (by assumption);omega)
        | (rw [p4 (by assumption)];done)
        | (rw [p5 (by assumption) (by assumption)];done)
        | (rw [p6 (by assumption) (by assumption) (by clear p4 p5 p6 p9 p0;grind)];done)
        | (rw [p9 (by assumption) (by assumption) (by clear p4 p5 p6 p9 p0;grind) (by clear p4 p5 p6 p9 p0;grind)];done)
        | (rw [p0 (by assumption) (by assumption) (by clear p4 p5 p6 p9 p0;grind) (by clear p4 p5 p6 p9 p0;grind)];done)
        | (trace_state;fail))
end Go.Proofs.Ytfplalbognalkaa.Ab
/- Flat plans: expressions asked with a function. -/
namespace Go.Proofs.Ytfplalbognalkaa.Ab
open Go
theorem ok183 (e:List (Int×Int)) (x:List (List E)) (hx:x=e.map orow) (hlen:x.length<=1048576) (l:Int):Proc Try.prog 183 (fun t=> [.e (.sl x),.ref (t 0) 0]) (fun _=> [.box [.int l]]) (fun _=> .bool (!exOk e l)) (fun _=> [.box [.int l]]):=by
  have h:=ok181 e x hx hlen l
  obtain ⟨b,hb⟩: ∃b,b=exOk e l:=⟨_,rfl⟩
  obtain ⟨nb,hnb⟩: ∃nb,nb=!b:=⟨_,rfl⟩
  rw [<-hb] at h ⊢
  rw [<-hnb]
  refine procOf mixed p183 (ibox_side (fun t=>rfl) rfl (fun t=>rfl)) fun A P hA hP=>?_
  cases b
  all_goals
    cbv
    repeat' first | with_reducible rfl | with_reducible refine And.intro ?_ ?_ | ((with_reducible intro hcc);first | (cases hcc;done) | skip) | ((with_reducible first | show goC _ _ _ _ _ _ _ _ | show goOps _ _ _ _ _ | show goD _ _ _ _ _ _);cbv) | ((with_reducible show okWr _ _=_);rfl) | ((with_reducible first | refine callK_f hA hP h ?_ ?_ ?_);exact rfl;exact rfl;cbv) | ((with_reducible first | refine hA.fin_pl _ _ _ ?_);cbv) | (simp only [hA.lits];cbv)
    all_goals try simp only [hA.ar,inR,n_cast,Int.ofNat_eq_natCast,Option.getD_some,Option.getD_none] at *
    all_goals first
      | (subst hnb;exact ibox_fin hA rfl rfl (fun _=>rfl) fun _=>rfl)
      | (trace_state;fail)
theorem fok319:fOK Try.prog 183:=⟨_,Try.func183,by decide,rfl⟩
set_option maxRecDepth 100000 in
theorem ok196 (l:List (List (Int×Int))) (es:List (List E)) (he:es=l.map orr) (hel: ∀e∈l,e.length<=1048576) (v:Int):
    Proc Try.prog 196 (fun t=> [.e (.sl es),.fn (.func 183) [] [.ref (t 0) 0]]) (fun _=> [.box [.int v]]) (fun _=> .int (fstG (fun k=>!exOk k v) l 0)) (fun _=> [.box [.int v]]):=by
  obtain ⟨r,hr⟩: ∃r,r=fstG (fun k=>!exOk k v) l 0:=⟨_,rfl⟩
  rw [<-hr]
  refine procOf mixed p196 (ibox_side (fun t=>rfl) rfl (fun t=>rfl)) fun A P hA hP=>?_
  have hf': ∃func,P.funcs[183]?=some func/\ ¬func.name= "runtime.NumGoroutine" /\func.body.isNone=false:=hP▸fok319
  have hl1:es.length=l.length:=by rw [he];simp
  cbv
  repeat' first | with_reducible rfl | with_reducible refine And.intro ?_ ?_ | ((with_reducible intro hcc);first | (cases hcc;done) | skip) | ((with_reducible first | show goC _ _ _ _ _ _ _ _ | show goOps _ _ _ _ _ | show goD _ _ _ _ _ _);cbv) | ((with_reducible show okWr _ _=_);rfl) | ((with_reducible first | refine hA.fin_pl _ _ _ ?_ | refine hA.len _ _ _ _ _ fun z hz hb=>?_ | refine hA.off _ _ _ _ fun b hb=>?_);cbv) | ((with_reducible first | refine hA.sapp _ _ _ ⟨?_,fun sl hsl=>?_⟩);rotate_left;cbv) | (simp only [hA.lits];cbv)
  all_goals try simp only [hA.ar,inR,n_cast,Int.ofNat_eq_natCast,Option.getD_some,Option.getD_none] at *
  refine hA.loopI (fun m s=> ∃(i:Int),0<=i/\m+i=es.length/\r=fstG (fun k=>!exOk k v) (l.drop i.toNat) i/\s=⟨[(8,.int i),(7,.int z),(0,.e (.sl es)),(1,.fn (.func 183) [] [.ref 0 0])], [.box [.int v]]⟩) es.length _
    (Weak.keep (env':= [(8,.int 0),(7,.int z),(0,.e (.sl es)),(1,.fn (.func 183) [] [.ref 0 0])]) ⟨rfl,rfl,rfl,rfl,trivial⟩) ⟨0,by omega,by omega,hr,rfl⟩ ?_
  rintro m s K ⟨i,h0,h1,h2,rfl⟩ hK
  by_cases hin:(0:Int)<=i/\i<es.length
  · obtain ⟨k,e1,q1⟩:=ors_at he hin
    obtain ⟨xk,hxk⟩: ∃x,x=k.map orow:=⟨_,rfl⟩
    have e1:es.getD i.toNat []= [E.sl xk]:=e1.trans (by rw [hxk])
    have h319:=ok183 k xk hxk (by rw [hxk,List.length_map];exact hel _ (List.mem_of_getElem? q1)) v
    obtain ⟨b,hb⟩: ∃b,b=!exOk k v:=⟨_,rfl⟩
    rw [<-hb] at h319
    have hd:l.drop i.toNat=k::l.drop (i.toNat+1):=by
      obtain ⟨a,c⟩:=List.getElem?_eq_some_iff.1 q1
      rw [List.drop_eq_getElem_cons a,c]
    rw [hd,fstG,<-hb] at h2
    have hK2: ∀(env:List (Nat×D)),b=false->subL [(8,.int (i+1)),(7,.int z),(0,.e (.sl es)),(1,.fn (.func 183) [] [.ref 0 0])] env->K ⟨env, [.box [.int v]]⟩:=fun env g1 g3=>
      hK _ (m-1) _ (by omega) (Weak.keep g3) ⟨i+1,by omega,by omega,by rw [h2,g1,show (i+1).toNat=i.toNat+1 by omega];rfl,rfl⟩
    clear hK hr hb
    cases b
    all_goals
      clear hd
      cbv
      repeat' first | with_reducible rfl | with_reducible refine And.intro ?_ ?_ | ((with_reducible intro hcc);first | (cases hcc;done) | skip) | ((with_reducible first | show goC _ _ _ _ _ _ _ _ | show goOps _ _ _ _ _ | show goD _ _ _ _ _ _);cbv) | ((with_reducible show okWr _ _=_);rfl) | ((with_reducible refine hA.row es _ _ ⟨hin,fun row hrow=>?_⟩);rw [e1] at hrow;subst hrow;cbv) | ((with_reducible show A.call _ _ _ _ _ 183 _ _ _);have hc:=h319;refine callK_pr hA hP [0] (by rfl) (by exact ⟨rfl,trivial⟩) (Wks.refl _) ?_ (fun _ _=>hc) hc.side;cbv) | ((with_reducible first | refine hA.fin_pl _ _ _ ?_ | refine hA.len _ _ _ _ _ fun z hz hb=>?_ | refine hA.off _ _ _ _ fun b hb=>?_);cbv) | ((with_reducible first | refine hA.sapp _ _ _ ⟨?_,fun sl hsl=>?_⟩);rotate_left;cbv) | (simp only [hA.lits];cbv)
      all_goals try simp only [hA.ar,inR,n_cast,Int.ofNat_eq_natCast,Option.getD_some,Option.getD_none] at *
      all_goals first
        | omega
        | exact hf'
        | (exfalso;simp only [decide_eq_true_eq,decide_eq_false_iff_not] at *;omega)
        | exact hK2 _ (by first | exact rfl | exact trivial) ⟨rfl,rfl,rfl,rfl,trivial⟩
        | (have e5:r=i:=h2
           exact ibox_fin hA rfl (by rw [e5]) (fun _=>rfl) fun _=>rfl)
        | (clear hK2 h2;simp at *;omega)
        | (trace_state;fail)
  · have hd:l.drop i.toNat= []:=by rw [List.drop_eq_nil_iff];omega
    rw [hd] at h2
    have e5:r= -1:=h2
    clear hK hr h2
    cbv
    repeat' first | with_reducible rfl | with_reducible refine And.intro ?_ ?_ | ((with_reducible intro hcc);first | (cases hcc;done) | skip) | ((with_reducible first | show goC _ _ _ _ _ _ _ _ | show goOps _ _ _ _ _ | show goD _ _ _ _ _ _);cbv) | ((with_reducible show okWr _ _=_);rfl) | (exfalso;simp only [hA.lt,hA.sub,decide_eq_true_eq,decide_eq_false_iff_not,n_cast] at *;omega) | ((with_reducible first | refine hA.fin_pl _ _ _ ?_ | refine hA.len _ _ _ _ _ fun z hz hb=>?_ | refine hA.off _ _ _ _ fun b hb=>?_);cbv) | ((with_reducible first | refine hA.sapp _ _ _ ⟨?_,fun sl hsl=>?_⟩);rotate_left;cbv) | (simp only [hA.lits];cbv)
    all_goals try simp only [hA.ar,inR,n_cast,Int.ofNat_eq_natCast,Option.getD_some,Option.getD_none] at *
    all_goals first
      | exact ibox_fin hA rfl (by rw [e5]) (fun _=>rfl) fun _=>rfl
      | omega
      | (trace_state;fail)
theorem ok182 (l:List (List (Int×Int))) (es:List (List E)) (he:es=l.map orr) (hel: ∀e∈l,e.length<=1048576) (v:Int):
    Proc Try.prog 182 (fun t=> [.e (.sl es),.fn (.func 183) [] [.ref (t 0) 0]]) (fun _=> [.box [.int v]]) (fun _=> .bool (l.any fun k=>!exOk k v)) (fun _=> [.box [.int v]]):=by
  have h325:=ok196 l es he hel v
  obtain ⟨x,hx⟩: ∃x,x=fstG (fun k=>!exOk k v) l 0:=⟨_,rfl⟩
  obtain ⟨r,hr⟩: ∃r,r=l.any fun k=>!exOk k v:=⟨_,rfl⟩
  rw [<-hx] at h325
  have hr2:r=decide (0<=x):=by rw [hr,hx,fstG_any _ _ _ (Int.le_refl 0)]
  rw [<-hr]
  refine procOf mixed p182 (ibox_side (fun t=>rfl) rfl (fun t=>rfl)) fun A P hA hP=>?_
  clear hr hx
  cbv
  repeat' first | with_reducible rfl | with_reducible refine And.intro ?_ ?_ | ((with_reducible intro hcc);first | (cases hcc;done) | skip) | ((with_reducible first | show goC _ _ _ _ _ _ _ _ | show goOps _ _ _ _ _ | show goD _ _ _ _ _ _);cbv) | ((with_reducible show okWr _ _=_);rfl) | ((with_reducible show A.call _ _ _ _ _ 196 _ _ _);have hc:=h325;refine callK_pr hA hP [0] (by rfl) (by exact ⟨rfl,trivial⟩) (Wks.refl _) ?_ (fun _ _=>hc) hc.side;cbv) | ((with_reducible first | refine hA.fin_pl _ _ _ ?_);cbv) | (simp only [hA.lits];cbv)
  all_goals try simp only [hA.ar,inR,n_cast,Int.ofNat_eq_natCast,Option.getD_some,Option.getD_none] at *
  all_goals exact ibox_fin hA rfl (by rw [hr2]) (fun _=>rfl) fun _=>rfl
end Go.Proofs.Ytfplalbognalkaa.Ab
/- Flat plans: the width of a node, by the program. -/
namespace Go.Proofs.Ytfplalbognalkaa.Ab
open Go
theorem any_not {α:Type} (p:α->Bool) (l:List α):(l.any fun k=>!p k)=!(l.all p):=by rw [List.not_all_eq_any_not]
set_option maxRecDepth 100000 in
set_option maxHeartbeats 8000000 in
theorem ok285_1 (T M W:Int) (Ex:List (Int×Int)) (Exs:List (List (Int×Int))) (L R:Int) (x y:List (List E)) (hx:x=Ex.map orow) (hy:y=Exs.map orr) (ts:List Tb) (xt:List (List E)) (hxt:xt=ts.map tbr) (ws:List Int) (xw:List (List E)) (hxw:xw=ws.map ir)
    (hwb: ∀w∈ws,0<=w/\w<=200) (hxl:x.length<=1048576) (hyl:y.length<=1048576) (hel: ∀e∈Exs,e.length<=1048576):
    Plain Try.prog 137 [.agg [.int 1,.int T,.int M,.int W,.e (.sl x),.e (.sl y),.int L,.int R],.agg [.e (.sl xt)],.e (.sl xw)] (.int (widI ⟨1,T,M,W,Ex,Exs,L,R⟩ ts.length (colsOf ts) (at0 false ws L) (at0 false ws R))):=okOf mixed p137 fun A P hA hP=>(by
  obtain ⟨zy,hzy⟩: ∃z:Int,z=y.length:=⟨_,rfl⟩
  obtain ⟨zt,hzt⟩: ∃z:Int,z=xt.length:=⟨_,rfl⟩
  have hyE:y.length=Exs.length:=by rw [hy];simp
  have hxT:xt.length=ts.length:=by rw [hxt];simp
  have hwl:xw.length=ws.length:=by rw [hxw];simp
  rw [show at0 false ws L=0 from rfl]
  rw [show at0 false ws R=0 from rfl]
  obtain ⟨res,hres⟩: ∃v:Int,v=widI ⟨1,T,M,W,Ex,Exs,L,R⟩ ts.length (colsOf ts) 0 0:=⟨_,rfl⟩
  rw [<-hres]
  have h257:Plain Try.prog 96 [.int 1] (.bool false):=ok96 1
  have h258:Plain Try.prog 97 [.int 1] (.bool false):=ok97 1
  have h316:Plain Try.prog 179 [.int 1] (.bool false):=ok179 1
  have h317:Plain Try.prog 180 [.agg [.int 1,.int T,.int M,.int W,.e (.sl x),.e (.sl y),.int L,.int R]] (.bool false):=ok180 1 T M W x y L R
  have h33:=ok181 Ex x hx hxl 0
  obtain ⟨ex,hex⟩: ∃b,b=exOk Ex 0:=⟨_,rfl⟩
  rw [<-hex] at h33
  obtain ⟨al,hal⟩: ∃b,b=Exs.all fun e=>exOk e 0:=⟨_,rfl⟩
  have hu:usI 1 M=false:=rfl
  have hres2:res=if 200<0 then-1 else 0:=by
    rw [hres,widI]
    simp only [hu,show mtc 1=false from rfl,Int.reduceEq,if_true,if_false,<-hex,<-hal,true_and,false_and,and_true,or_true,true_or,or_false,false_or,Bool.false_eq_true,gt_iff_lt,ne_eq]
    rfl
  clear hres hu
  cbv
  repeat' first | with_reducible rfl | (simp only [hA.eq,Int.reduceEq,decide_true,decide_false];cbv) | with_reducible refine And.intro ?_ ?_ | ((with_reducible intro hcc);first | (cases hcc;done) | skip) | ((with_reducible first | show goC _ _ _ _ _ _ _ _ | show goOps _ _ _ _ _ | show goD _ _ _ _ _ _);cbv) | ((with_reducible show okWr _ _=_);rfl) | ((with_reducible first | refine callK_f hA hP h257 ?_ ?_ ?_ | refine callK_f hA hP h258 ?_ ?_ ?_ | refine callK_f hA hP h316 ?_ ?_ ?_ | refine callK_f hA hP h317 ?_ ?_ ?_ | refine callK_f hA hP h33 ?_ ?_ ?_);exact rfl;exact rfl;cbv) | ((with_reducible refine hA.len y _ _ _ _ fun z hz hb=>?_);(have e6:=hzy.trans hz.symm);subst e6;cbv) | ((with_reducible refine hA.len xt _ _ _ _ fun z hz hb=>?_);(have e6:=hzt.trans hz.symm);subst e6;cbv) | ((with_reducible first | refine hA.fin_pl _ _ _ ?_ | refine hA.len _ _ _ _ _ fun z hz hb=>?_ | refine hA.off _ _ _ _ fun b hb=>?_ | refine hA.plus _ _ _ fun b hb=>?_ | refine hA.alt _ _ (Or.inl ?_) | refine hA.gb0 true _ ?_ | refine hA.gb0 false _ ?_ | refine hA.gb _ _ fun vb hvb=>?_);cbv) | ((with_reducible first | refine hA.st _ _ _ _ _ ⟨?_,fun ds hds=>?_⟩ | refine hA.sapp _ _ _ ⟨?_,fun sl hsl=>?_⟩);rotate_left;cbv) | (simp only [hA.lits];cbv)
  all_goals try simp only [hA.ar,inR,n_cast,Int.ofNat_eq_natCast,Option.getD_some,Option.getD_none] at *
  all_goals first
    | omega
    | trivial
    | exact gg1 _
    | exact gg2 _
    | exact gg3 _
    | exact gg4 _
    | exact gg5 _
    | exact gg6 _ _
    | (rw [hres2];done)
    | (rw [hres2];clear hres2 hel hwb;grind)
    | (clear hres2 hel hwb;grind)
    | (trace_state;fail))
set_option maxRecDepth 100000 in
set_option maxHeartbeats 8000000 in
theorem ok285_2 (T M W:Int) (Ex:List (Int×Int)) (Exs:List (List (Int×Int))) (L R:Int) (x y:List (List E)) (hx:x=Ex.map orow) (hy:y=Exs.map orr) (ts:List Tb) (xt:List (List E)) (hxt:xt=ts.map tbr) (ws:List Int) (xw:List (List E)) (hxw:xw=ws.map ir)
    (hwb: ∀w∈ws,0<=w/\w<=200) (hxl:x.length<=1048576) (hyl:y.length<=1048576) (hel: ∀e∈Exs,e.length<=1048576):
    Plain Try.prog 137 [.agg [.int 2,.int T,.int M,.int W,.e (.sl x),.e (.sl y),.int L,.int R],.agg [.e (.sl xt)],.e (.sl xw)] (.int (widI ⟨2,T,M,W,Ex,Exs,L,R⟩ ts.length (colsOf ts) (at0 false ws L) (at0 false ws R))):=okOf mixed p137 fun A P hA hP=>(by
  obtain ⟨zy,hzy⟩: ∃z:Int,z=y.length:=⟨_,rfl⟩
  obtain ⟨zt,hzt⟩: ∃z:Int,z=xt.length:=⟨_,rfl⟩
  have hyE:y.length=Exs.length:=by rw [hy];simp
  have hxT:xt.length=ts.length:=by rw [hxt];simp
  have hwl:xw.length=ws.length:=by rw [hxw];simp
  rw [show at0 false ws L=0 from rfl]
  rw [show at0 false ws R=0 from rfl]
  obtain ⟨res,hres⟩: ∃v:Int,v=widI ⟨2,T,M,W,Ex,Exs,L,R⟩ ts.length (colsOf ts) 0 0:=⟨_,rfl⟩
  rw [<-hres]
  have h257:Plain Try.prog 96 [.int 2] (.bool false):=ok96 2
  have h258:Plain Try.prog 97 [.int 2] (.bool false):=ok97 2
  have h316:Plain Try.prog 179 [.int 2] (.bool false):=ok179 2
  have h317:Plain Try.prog 180 [.agg [.int 2,.int T,.int M,.int W,.e (.sl x),.e (.sl y),.int L,.int R]] (.bool false):=ok180 2 T M W x y L R
  have h33:=ok181 Ex x hx hxl 0
  obtain ⟨ex,hex⟩: ∃b,b=exOk Ex 0:=⟨_,rfl⟩
  rw [<-hex] at h33
  obtain ⟨al,hal⟩: ∃b,b=Exs.all fun e=>exOk e 0:=⟨_,rfl⟩
  obtain ⟨cT,hcT⟩: ∃c,c=colsOf ts T:=⟨_,rfl⟩
  have hu:usI 2 M=false:=rfl
  have hres2:res=if (T<0\/zt<=T) then-1 else if 200<cT then-1 else cT:=by
    rw [hres,widI]
    simp only [hu,show mtc 2=false from rfl,Int.reduceEq,if_true,if_false,<-hex,<-hal,<-hcT,<-hxT,<-hzt,true_and,false_and,and_true,or_true,true_or,or_false,false_or,Bool.false_eq_true,gt_iff_lt,ne_eq]
  clear hres hu
  by_cases hTr:(0:Int)<=T/\T<xt.length
  · obtain ⟨p,q1,q2⟩:=row_at hxt hTr
    obtain ⟨ps,hps⟩: ∃s,s=p.1:=⟨_,rfl⟩
    obtain ⟨px,hpx⟩: ∃s,s=p.2.2.map rsr:=⟨_,rfl⟩
    have hc:cT=p.2.1:=by rw [hcT,colsOf];simp [List.getD,q2]
    have q3:xt.getD T.toNat []= [E.str ps,E.int cT,E.sl px]:=by rw [q1,hps,hc,hpx]
    have v1:A.lt T 0=false:=by rw [hA.lt];exact decide_eq_false (by omega)
    have v2:A.le zt T=false:=by rw [hA.le];exact decide_eq_false (by omega)
    rw [if_neg (by omega)] at hres2
    clear hcT hc q1 q2
    cbv
    repeat' first | with_reducible rfl | (simp only [v1,v2,hA.eq,Int.reduceEq,decide_true,decide_false];cbv) | with_reducible refine And.intro ?_ ?_ | ((with_reducible intro hcc);first | (cases hcc;done) | skip) | ((with_reducible first | show goC _ _ _ _ _ _ _ _ | show goOps _ _ _ _ _ | show goD _ _ _ _ _ _);cbv) | ((with_reducible show okWr _ _=_);rfl) | ((with_reducible first | refine callK_f hA hP h257 ?_ ?_ ?_ | refine callK_f hA hP h258 ?_ ?_ ?_ | refine callK_f hA hP h316 ?_ ?_ ?_ | refine callK_f hA hP h317 ?_ ?_ ?_ | refine callK_f hA hP h33 ?_ ?_ ?_);exact rfl;exact rfl;cbv) | ((with_reducible refine hA.len y _ _ _ _ fun z hz hb=>?_);(have e6:=hzy.trans hz.symm);subst e6;cbv) | ((with_reducible refine hA.len xt _ _ _ _ fun z hz hb=>?_);(have e6:=hzt.trans hz.symm);subst e6;cbv) | ((with_reducible refine hA.row xt T _ ⟨hTr,fun row hrow=>?_⟩);rw [q3] at hrow;subst hrow;cbv) | ((with_reducible first | refine hA.fin_pl _ _ _ ?_ | refine hA.len _ _ _ _ _ fun z hz hb=>?_ | refine hA.off _ _ _ _ fun b hb=>?_ | refine hA.plus _ _ _ fun b hb=>?_ | refine hA.alt _ _ (Or.inl ?_) | refine hA.gb0 true _ ?_ | refine hA.gb0 false _ ?_ | refine hA.gb _ _ fun vb hvb=>?_);cbv) | ((with_reducible first | refine hA.st _ _ _ _ _ ⟨?_,fun ds hds=>?_⟩ | refine hA.sapp _ _ _ ⟨?_,fun sl hsl=>?_⟩);rotate_left;cbv) | (simp only [hA.lits];cbv)
    all_goals try simp only [hA.ar,inR,n_cast,Int.ofNat_eq_natCast,Option.getD_some,Option.getD_none] at *
    all_goals first
      | omega
      | trivial
      | exact gg1 _
      | exact gg2 _
      | exact gg3 _
      | exact gg4 _
      | exact gg5 _
      | exact gg6 _ _
      | (rw [hres2];done)
      | (rw [hres2];clear hres2 hel hwb;grind)
      | (clear hres2 hel hwb;grind)
      | (trace_state;fail)
  · rw [if_pos (by omega)] at hres2
    by_cases h0:T<0
    · have v1:A.lt T 0=true:=by rw [hA.lt];exact decide_eq_true h0
      cbv
      repeat' first | with_reducible rfl | (simp only [v1,hA.eq,Int.reduceEq,decide_true,decide_false];cbv) | with_reducible refine And.intro ?_ ?_ | ((with_reducible intro hcc);first | (cases hcc;done) | skip) | ((with_reducible first | show goC _ _ _ _ _ _ _ _ | show goOps _ _ _ _ _ | show goD _ _ _ _ _ _);cbv) | ((with_reducible show okWr _ _=_);rfl) | ((with_reducible first | refine callK_f hA hP h257 ?_ ?_ ?_ | refine callK_f hA hP h258 ?_ ?_ ?_ | refine callK_f hA hP h316 ?_ ?_ ?_ | refine callK_f hA hP h317 ?_ ?_ ?_ | refine callK_f hA hP h33 ?_ ?_ ?_);exact rfl;exact rfl;cbv) | ((with_reducible refine hA.len y _ _ _ _ fun z hz hb=>?_);(have e6:=hzy.trans hz.symm);subst e6;cbv) | ((with_reducible refine hA.len xt _ _ _ _ fun z hz hb=>?_);(have e6:=hzt.trans hz.symm);subst e6;cbv) | ((with_reducible first | refine hA.fin_pl _ _ _ ?_ | refine hA.len _ _ _ _ _ fun z hz hb=>?_ | refine hA.off _ _ _ _ fun b hb=>?_ | refine hA.plus _ _ _ fun b hb=>?_ | refine hA.alt _ _ (Or.inl ?_) | refine hA.gb0 true _ ?_ | refine hA.gb0 false _ ?_ | refine hA.gb _ _ fun vb hvb=>?_);cbv) | ((with_reducible first | refine hA.st _ _ _ _ _ ⟨?_,fun ds hds=>?_⟩ | refine hA.sapp _ _ _ ⟨?_,fun sl hsl=>?_⟩);rotate_left;cbv) | (simp only [hA.lits];cbv)
      all_goals try simp only [hA.ar,inR,n_cast,Int.ofNat_eq_natCast,Option.getD_some,Option.getD_none] at *
      all_goals first
        | omega
        | trivial
        | exact gg1 _
        | exact gg2 _
        | exact gg3 _
        | exact gg4 _
        | exact gg5 _
        | exact gg6 _ _
        | (rw [hres2];done)
        | (rw [hres2];clear hres2 hel hwb;grind)
        | (clear hres2 hel hwb;grind)
        | (trace_state;fail)
    · have v1:A.lt T 0=false:=by rw [hA.lt];exact decide_eq_false h0
      have v2:A.le zt T=true:=by rw [hA.le];exact decide_eq_true (by omega)
      cbv
      repeat' first | with_reducible rfl | (simp only [v1,v2,hA.eq,Int.reduceEq,decide_true,decide_false];cbv) | with_reducible refine And.intro ?_ ?_ | ((with_reducible intro hcc);first | (cases hcc;done) | skip) | ((with_reducible first | show goC _ _ _ _ _ _ _ _ | show goOps _ _ _ _ _ | show goD _ _ _ _ _ _);cbv) | ((with_reducible show okWr _ _=_);rfl) | ((with_reducible first | refine callK_f hA hP h257 ?_ ?_ ?_ | refine callK_f hA hP h258 ?_ ?_ ?_ | refine callK_f hA hP h316 ?_ ?_ ?_ | refine callK_f hA hP h317 ?_ ?_ ?_ | refine callK_f hA hP h33 ?_ ?_ ?_);exact rfl;exact rfl;cbv) | ((with_reducible refine hA.len y _ _ _ _ fun z hz hb=>?_);(have e6:=hzy.trans hz.symm);subst e6;cbv) | ((with_reducible refine hA.len xt _ _ _ _ fun z hz hb=>?_);(have e6:=hzt.trans hz.symm);subst e6;cbv) | ((with_reducible first | refine hA.fin_pl _ _ _ ?_ | refine hA.len _ _ _ _ _ fun z hz hb=>?_ | refine hA.off _ _ _ _ fun b hb=>?_ | refine hA.plus _ _ _ fun b hb=>?_ | refine hA.alt _ _ (Or.inl ?_) | refine hA.gb0 true _ ?_ | refine hA.gb0 false _ ?_ | refine hA.gb _ _ fun vb hvb=>?_);cbv) | ((with_reducible first | refine hA.st _ _ _ _ _ ⟨?_,fun ds hds=>?_⟩ | refine hA.sapp _ _ _ ⟨?_,fun sl hsl=>?_⟩);rotate_left;cbv) | (simp only [hA.lits];cbv)
      all_goals try simp only [hA.ar,inR,n_cast,Int.ofNat_eq_natCast,Option.getD_some,Option.getD_none] at *
      all_goals first
        | omega
        | trivial
        | exact gg1 _
        | exact gg2 _
        | exact gg3 _
        | exact gg4 _
        | exact gg5 _
        | exact gg6 _ _
        | (rw [hres2];done)
        | (rw [hres2];clear hres2 hel hwb;grind)
        | (clear hres2 hel hwb;grind)
        | (trace_state;fail))
set_option maxRecDepth 100000 in
set_option maxHeartbeats 8000000 in
theorem ok285_3 (T M W:Int) (Ex:List (Int×Int)) (Exs:List (List (Int×Int))) (L R:Int) (x y:List (List E)) (hx:x=Ex.map orow) (hy:y=Exs.map orr) (ts:List Tb) (xt:List (List E)) (hxt:xt=ts.map tbr) (ws:List Int) (xw:List (List E)) (hxw:xw=ws.map ir)
    (hwb: ∀w∈ws,0<=w/\w<=200) (hxl:x.length<=1048576) (hyl:y.length<=1048576) (hel: ∀e∈Exs,e.length<=1048576) (hL:0<=L/\L<ws.length):
    Plain Try.prog 137 [.agg [.int 3,.int T,.int M,.int W,.e (.sl x),.e (.sl y),.int L,.int R],.agg [.e (.sl xt)],.e (.sl xw)] (.int (widI ⟨3,T,M,W,Ex,Exs,L,R⟩ ts.length (colsOf ts) (at0 true ws L) (at0 false ws R))):=okOf mixed p137 fun A P hA hP=>(by
  obtain ⟨zy,hzy⟩: ∃z:Int,z=y.length:=⟨_,rfl⟩
  obtain ⟨zt,hzt⟩: ∃z:Int,z=xt.length:=⟨_,rfl⟩
  have hyE:y.length=Exs.length:=by rw [hy];simp
  have hxT:xt.length=ts.length:=by rw [hxt];simp
  have hwl:xw.length=ws.length:=by rw [hxw];simp
  have hLx:(0:Int)<=L/\L<xw.length:=by omega
  obtain ⟨l,ql,ql2⟩:=int_at hxw hLx
  have hl:at0 true ws L=l:=by simp [at0,List.getD,ql2]
  have hlb:=hwb l (List.mem_of_getElem? ql2)
  rw [hl]
  rw [show at0 false ws R=0 from rfl]
  obtain ⟨res,hres⟩: ∃v:Int,v=widI ⟨3,T,M,W,Ex,Exs,L,R⟩ ts.length (colsOf ts) l 0:=⟨_,rfl⟩
  rw [<-hres]
  have h257:Plain Try.prog 96 [.int 3] (.bool true):=ok96 3
  have h258:Plain Try.prog 97 [.int 3] (.bool false):=ok97 3
  have h316:Plain Try.prog 179 [.int 3] (.bool false):=ok179 3
  have h317:Plain Try.prog 180 [.agg [.int 3,.int T,.int M,.int W,.e (.sl x),.e (.sl y),.int L,.int R]] (.bool true):=ok180 3 T M W x y L R
  have h33:=ok181 Ex x hx hxl l
  obtain ⟨ex,hex⟩: ∃b,b=exOk Ex l:=⟨_,rfl⟩
  rw [<-hex] at h33
  obtain ⟨al,hal⟩: ∃b,b=Exs.all fun e=>exOk e l:=⟨_,rfl⟩
  have hu:usI 3 M=true:=rfl
  have hres2:res=if (true=true/\ex=false) then-1 else if 200<l then-1 else l:=by
    rw [hres,widI]
    simp only [hu,show mtc 3=false from rfl,Int.reduceEq,if_true,if_false,<-hex,<-hal,true_and,false_and,and_true,or_true,true_or,or_false,false_or,Bool.false_eq_true,gt_iff_lt,ne_eq]
  clear hres hu
  cbv
  repeat' first | with_reducible rfl | (simp only [hA.eq,Int.reduceEq,decide_true,decide_false];cbv) | with_reducible refine And.intro ?_ ?_ | ((with_reducible intro hcc);first | (cases hcc;done) | skip) | ((with_reducible first | show goC _ _ _ _ _ _ _ _ | show goOps _ _ _ _ _ | show goD _ _ _ _ _ _);cbv) | ((with_reducible show okWr _ _=_);rfl) | ((with_reducible first | refine callK_f hA hP h257 ?_ ?_ ?_ | refine callK_f hA hP h258 ?_ ?_ ?_ | refine callK_f hA hP h316 ?_ ?_ ?_ | refine callK_f hA hP h317 ?_ ?_ ?_ | refine callK_f hA hP h33 ?_ ?_ ?_);exact rfl;exact rfl;cbv) | ((with_reducible refine hA.len y _ _ _ _ fun z hz hb=>?_);(have e6:=hzy.trans hz.symm);subst e6;cbv) | ((with_reducible refine hA.len xt _ _ _ _ fun z hz hb=>?_);(have e6:=hzt.trans hz.symm);subst e6;cbv) | ((with_reducible refine hA.row xw L _ ⟨hLx,fun row hrow=>?_⟩);rw [ql] at hrow;subst hrow;cbv) | ((with_reducible first | refine hA.fin_pl _ _ _ ?_ | refine hA.len _ _ _ _ _ fun z hz hb=>?_ | refine hA.off _ _ _ _ fun b hb=>?_ | refine hA.plus _ _ _ fun b hb=>?_ | refine hA.alt _ _ (Or.inl ?_) | refine hA.gb0 true _ ?_ | refine hA.gb0 false _ ?_ | refine hA.gb _ _ fun vb hvb=>?_);cbv) | ((with_reducible first | refine hA.st _ _ _ _ _ ⟨?_,fun ds hds=>?_⟩ | refine hA.sapp _ _ _ ⟨?_,fun sl hsl=>?_⟩);rotate_left;cbv) | (simp only [hA.lits];cbv)
  all_goals try simp only [hA.ar,inR,n_cast,Int.ofNat_eq_natCast,Option.getD_some,Option.getD_none] at *
  all_goals first
    | omega
    | trivial
    | exact gg1 _
    | exact gg2 _
    | exact gg3 _
    | exact gg4 _
    | exact gg5 _
    | exact gg6 _ _
    | (rw [hres2];done)
    | (rw [hres2];clear hres2 hel hwb;grind)
    | (clear hres2 hel hwb;grind)
    | (trace_state;fail))
set_option maxRecDepth 100000 in
set_option maxHeartbeats 8000000 in
theorem ok285_4 (T M W:Int) (Ex:List (Int×Int)) (Exs:List (List (Int×Int))) (L R:Int) (x y:List (List E)) (hx:x=Ex.map orow) (hy:y=Exs.map orr) (ts:List Tb) (xt:List (List E)) (hxt:xt=ts.map tbr) (ws:List Int) (xw:List (List E)) (hxw:xw=ws.map ir)
    (hwb: ∀w∈ws,0<=w/\w<=200) (hxl:x.length<=1048576) (hyl:y.length<=1048576) (hel: ∀e∈Exs,e.length<=1048576) (hL:0<=L/\L<ws.length):
    Plain Try.prog 137 [.agg [.int 4,.int T,.int M,.int W,.e (.sl x),.e (.sl y),.int L,.int R],.agg [.e (.sl xt)],.e (.sl xw)] (.int (widI ⟨4,T,M,W,Ex,Exs,L,R⟩ ts.length (colsOf ts) (at0 true ws L) (at0 false ws R))):=okOf mixed p137 fun A P hA hP=>(by
  obtain ⟨zy,hzy⟩: ∃z:Int,z=y.length:=⟨_,rfl⟩
  obtain ⟨zt,hzt⟩: ∃z:Int,z=xt.length:=⟨_,rfl⟩
  have hyE:y.length=Exs.length:=by rw [hy];simp
  have hxT:xt.length=ts.length:=by rw [hxt];simp
  have hwl:xw.length=ws.length:=by rw [hxw];simp
  have hLx:(0:Int)<=L/\L<xw.length:=by omega
  obtain ⟨l,ql,ql2⟩:=int_at hxw hLx
  have hl:at0 true ws L=l:=by simp [at0,List.getD,ql2]
  have hlb:=hwb l (List.mem_of_getElem? ql2)
  rw [hl]
  rw [show at0 false ws R=0 from rfl]
  obtain ⟨res,hres⟩: ∃v:Int,v=widI ⟨4,T,M,W,Ex,Exs,L,R⟩ ts.length (colsOf ts) l 0:=⟨_,rfl⟩
  rw [<-hres]
  have h257:Plain Try.prog 96 [.int 4] (.bool true):=ok96 4
  have h258:Plain Try.prog 97 [.int 4] (.bool false):=ok97 4
  have h316:Plain Try.prog 179 [.int 4] (.bool false):=ok179 4
  have h317:Plain Try.prog 180 [.agg [.int 4,.int T,.int M,.int W,.e (.sl x),.e (.sl y),.int L,.int R]] (.bool false):=ok180 4 T M W x y L R
  have h33:=ok181 Ex x hx hxl 0
  obtain ⟨ex,hex⟩: ∃b,b=exOk Ex 0:=⟨_,rfl⟩
  rw [<-hex] at h33
  obtain ⟨al,hal⟩: ∃b,b=Exs.all fun e=>exOk e l:=⟨_,rfl⟩
  have h318:=ok182 Exs y hy hel l
  rw [any_not,<-hal] at h318
  have hu:usI 4 M=false:=rfl
  have hres2:res=if al=false then-1 else if 200<zy then-1 else zy:=by
    rw [hres,widI]
    simp only [hu,show mtc 4=false from rfl,Int.reduceEq,if_true,if_false,<-hex,<-hal,<-hyE,<-hzy,true_and,false_and,and_true,or_true,true_or,or_false,false_or,Bool.false_eq_true,gt_iff_lt,ne_eq]
  clear hres hu
  cbv
  repeat' first | with_reducible rfl | (simp only [hA.eq,Int.reduceEq,decide_true,decide_false];cbv) | with_reducible refine And.intro ?_ ?_ | ((with_reducible intro hcc);first | (cases hcc;done) | skip) | ((with_reducible first | show goC _ _ _ _ _ _ _ _ | show goOps _ _ _ _ _ | show goD _ _ _ _ _ _);cbv) | ((with_reducible show okWr _ _=_);rfl) | ((with_reducible first | refine callK_f hA hP h257 ?_ ?_ ?_ | refine callK_f hA hP h258 ?_ ?_ ?_ | refine callK_f hA hP h316 ?_ ?_ ?_ | refine callK_f hA hP h317 ?_ ?_ ?_ | refine callK_f hA hP h33 ?_ ?_ ?_);exact rfl;exact rfl;cbv) | ((with_reducible refine hA.len y _ _ _ _ fun z hz hb=>?_);(have e6:=hzy.trans hz.symm);subst e6;cbv) | ((with_reducible refine hA.len xt _ _ _ _ fun z hz hb=>?_);(have e6:=hzt.trans hz.symm);subst e6;cbv) | ((with_reducible refine hA.row xw L _ ⟨hLx,fun row hrow=>?_⟩);rw [ql] at hrow;subst hrow;cbv) | ((with_reducible show A.call _ _ _ _ _ 182 _ _ _);have hc:=h318;refine callK_pr hA hP [2] (by rfl) (by exact ⟨rfl,trivial⟩) (Wks.refl _) ?_ (fun _ _=>hc) hc.side;cbv) | ((with_reducible first | refine hA.fin_pl _ _ _ ?_ | refine hA.len _ _ _ _ _ fun z hz hb=>?_ | refine hA.off _ _ _ _ fun b hb=>?_ | refine hA.plus _ _ _ fun b hb=>?_ | refine hA.alt _ _ (Or.inl ?_) | refine hA.gb0 true _ ?_ | refine hA.gb0 false _ ?_ | refine hA.gb _ _ fun vb hvb=>?_);cbv) | ((with_reducible first | refine hA.st _ _ _ _ _ ⟨?_,fun ds hds=>?_⟩ | refine hA.sapp _ _ _ ⟨?_,fun sl hsl=>?_⟩);rotate_left;cbv) | (simp only [hA.lits];cbv)
  all_goals try simp only [hA.ar,inR,n_cast,Int.ofNat_eq_natCast,Option.getD_some,Option.getD_none] at *
  all_goals first
    | omega
    | trivial
    | exact gg1 _
    | exact gg2 _
    | exact gg3 _
    | exact gg4 _
    | exact gg5 _
    | exact gg6 _ _
    | (rw [hres2];done)
    | (rw [hres2];clear hres2 hel hwb;grind)
    | (clear hres2 hel hwb;grind)
    | (trace_state;fail))
set_option maxRecDepth 100000 in
set_option maxHeartbeats 8000000 in
theorem ok285_5 (T M W:Int) (Ex:List (Int×Int)) (Exs:List (List (Int×Int))) (L R:Int) (x y:List (List E)) (hx:x=Ex.map orow) (hy:y=Exs.map orr) (ts:List Tb) (xt:List (List E)) (hxt:xt=ts.map tbr) (ws:List Int) (xw:List (List E)) (hxw:xw=ws.map ir)
    (hwb: ∀w∈ws,0<=w/\w<=200) (hxl:x.length<=1048576) (hyl:y.length<=1048576) (hel: ∀e∈Exs,e.length<=1048576) (hL:0<=L/\L<ws.length) (hR:0<=R/\R<ws.length):
    Plain Try.prog 137 [.agg [.int 5,.int T,.int M,.int W,.e (.sl x),.e (.sl y),.int L,.int R],.agg [.e (.sl xt)],.e (.sl xw)] (.int (widI ⟨5,T,M,W,Ex,Exs,L,R⟩ ts.length (colsOf ts) (at0 true ws L) (at0 true ws R))):=okOf mixed p137 fun A P hA hP=>(by
  obtain ⟨zy,hzy⟩: ∃z:Int,z=y.length:=⟨_,rfl⟩
  obtain ⟨zt,hzt⟩: ∃z:Int,z=xt.length:=⟨_,rfl⟩
  have hyE:y.length=Exs.length:=by rw [hy];simp
  have hxT:xt.length=ts.length:=by rw [hxt];simp
  have hwl:xw.length=ws.length:=by rw [hxw];simp
  have hLx:(0:Int)<=L/\L<xw.length:=by omega
  obtain ⟨l,ql,ql2⟩:=int_at hxw hLx
  have hl:at0 true ws L=l:=by simp [at0,List.getD,ql2]
  have hlb:=hwb l (List.mem_of_getElem? ql2)
  rw [hl]
  have hRx:(0:Int)<=R/\R<xw.length:=by omega
  obtain ⟨r,qr,qr2⟩:=int_at hxw hRx
  have hr:at0 true ws R=r:=by simp [at0,List.getD,qr2]
  have hrb:=hwb r (List.mem_of_getElem? qr2)
  rw [hr]
  obtain ⟨res,hres⟩: ∃v:Int,v=widI ⟨5,T,M,W,Ex,Exs,L,R⟩ ts.length (colsOf ts) l r:=⟨_,rfl⟩
  rw [<-hres]
  have h257:Plain Try.prog 96 [.int 5] (.bool true):=ok96 5
  have h258:Plain Try.prog 97 [.int 5] (.bool true):=ok97 5
  have h316:Plain Try.prog 179 [.int 5] (.bool true):=ok179 5
  have h317:Plain Try.prog 180 [.agg [.int 5,.int T,.int M,.int W,.e (.sl x),.e (.sl y),.int L,.int R]] (.bool false):=ok180 5 T M W x y L R
  have h33:=ok181 Ex x hx hxl r
  obtain ⟨ex,hex⟩: ∃b,b=exOk Ex r:=⟨_,rfl⟩
  rw [<-hex] at h33
  obtain ⟨al,hal⟩: ∃b,b=Exs.all fun e=>exOk e l:=⟨_,rfl⟩
  have hu:usI 5 M=false:=rfl
  have hres2:res=if (W<0\/min l r<W) then-1 else if 200<l+r-W then-1 else l+r-W:=by
    rw [hres,widI]
    simp only [hu,show mtc 5=true from rfl,Int.reduceEq,if_true,if_false,<-hex,<-hal,true_and,false_and,and_true,or_true,true_or,or_false,false_or,Bool.false_eq_true,gt_iff_lt,ne_eq]
  clear hres hu
  cbv
  repeat' first | with_reducible rfl | (simp only [hA.eq,Int.reduceEq,decide_true,decide_false];cbv) | with_reducible refine And.intro ?_ ?_ | ((with_reducible intro hcc);first | (cases hcc;done) | skip) | ((with_reducible first | show goC _ _ _ _ _ _ _ _ | show goOps _ _ _ _ _ | show goD _ _ _ _ _ _);cbv) | ((with_reducible show okWr _ _=_);rfl) | ((with_reducible first | refine callK_f hA hP h257 ?_ ?_ ?_ | refine callK_f hA hP h258 ?_ ?_ ?_ | refine callK_f hA hP h316 ?_ ?_ ?_ | refine callK_f hA hP h317 ?_ ?_ ?_ | refine callK_f hA hP h33 ?_ ?_ ?_);exact rfl;exact rfl;cbv) | ((with_reducible refine hA.len y _ _ _ _ fun z hz hb=>?_);(have e6:=hzy.trans hz.symm);subst e6;cbv) | ((with_reducible refine hA.len xt _ _ _ _ fun z hz hb=>?_);(have e6:=hzt.trans hz.symm);subst e6;cbv) | ((with_reducible refine hA.row xw L _ ⟨hLx,fun row hrow=>?_⟩);rw [ql] at hrow;subst hrow;cbv) | ((with_reducible refine hA.row xw R _ ⟨hRx,fun row hrow=>?_⟩);rw [qr] at hrow;subst hrow;cbv) | ((with_reducible first | refine hA.fin_pl _ _ _ ?_ | refine hA.len _ _ _ _ _ fun z hz hb=>?_ | refine hA.off _ _ _ _ fun b hb=>?_ | refine hA.plus _ _ _ fun b hb=>?_ | refine hA.alt _ _ (Or.inl ?_) | refine hA.gb0 true _ ?_ | refine hA.gb0 false _ ?_ | refine hA.gb _ _ fun vb hvb=>?_);cbv) | ((with_reducible first | refine hA.st _ _ _ _ _ ⟨?_,fun ds hds=>?_⟩ | refine hA.sapp _ _ _ ⟨?_,fun sl hsl=>?_⟩);rotate_left;cbv) | (simp only [hA.lits];cbv)
  all_goals try simp only [hA.ar,inR,n_cast,Int.ofNat_eq_natCast,Option.getD_some,Option.getD_none] at *
  all_goals first
    | omega
    | trivial
    | exact gg1 _
    | exact gg2 _
    | exact gg3 _
    | exact gg4 _
    | exact gg5 _
    | exact gg6 _ _
    | (rw [hres2];done)
    | (rw [hres2];clear hres2 hel hwb;grind)
    | (clear hres2 hel hwb;grind)
    | (trace_state;fail))
set_option maxRecDepth 100000 in
set_option maxHeartbeats 8000000 in
theorem ok285_6 (T M W:Int) (Ex:List (Int×Int)) (Exs:List (List (Int×Int))) (L R:Int) (x y:List (List E)) (hx:x=Ex.map orow) (hy:y=Exs.map orr) (ts:List Tb) (xt:List (List E)) (hxt:xt=ts.map tbr) (ws:List Int) (xw:List (List E)) (hxw:xw=ws.map ir)
    (hwb: ∀w∈ws,0<=w/\w<=200) (hxl:x.length<=1048576) (hyl:y.length<=1048576) (hel: ∀e∈Exs,e.length<=1048576) (hL:0<=L/\L<ws.length) (hR:0<=R/\R<ws.length):
    Plain Try.prog 137 [.agg [.int 6,.int T,.int M,.int W,.e (.sl x),.e (.sl y),.int L,.int R],.agg [.e (.sl xt)],.e (.sl xw)] (.int (widI ⟨6,T,M,W,Ex,Exs,L,R⟩ ts.length (colsOf ts) (at0 true ws L) (at0 true ws R))):=okOf mixed p137 fun A P hA hP=>(by
  obtain ⟨zy,hzy⟩: ∃z:Int,z=y.length:=⟨_,rfl⟩
  obtain ⟨zt,hzt⟩: ∃z:Int,z=xt.length:=⟨_,rfl⟩
  have hyE:y.length=Exs.length:=by rw [hy];simp
  have hxT:xt.length=ts.length:=by rw [hxt];simp
  have hwl:xw.length=ws.length:=by rw [hxw];simp
  have hLx:(0:Int)<=L/\L<xw.length:=by omega
  obtain ⟨l,ql,ql2⟩:=int_at hxw hLx
  have hl:at0 true ws L=l:=by simp [at0,List.getD,ql2]
  have hlb:=hwb l (List.mem_of_getElem? ql2)
  rw [hl]
  have hRx:(0:Int)<=R/\R<xw.length:=by omega
  obtain ⟨r,qr,qr2⟩:=int_at hxw hRx
  have hr:at0 true ws R=r:=by simp [at0,List.getD,qr2]
  have hrb:=hwb r (List.mem_of_getElem? qr2)
  rw [hr]
  obtain ⟨res,hres⟩: ∃v:Int,v=widI ⟨6,T,M,W,Ex,Exs,L,R⟩ ts.length (colsOf ts) l r:=⟨_,rfl⟩
  rw [<-hres]
  have h257:Plain Try.prog 96 [.int 6] (.bool true):=ok96 6
  have h258:Plain Try.prog 97 [.int 6] (.bool true):=ok97 6
  have h316:Plain Try.prog 179 [.int 6] (.bool true):=ok179 6
  have h317:Plain Try.prog 180 [.agg [.int 6,.int T,.int M,.int W,.e (.sl x),.e (.sl y),.int L,.int R]] (.bool true):=ok180 6 T M W x y L R
  have h33:=ok181 Ex x hx hxl r
  obtain ⟨ex,hex⟩: ∃b,b=exOk Ex r:=⟨_,rfl⟩
  rw [<-hex] at h33
  obtain ⟨al,hal⟩: ∃b,b=Exs.all fun e=>exOk e l:=⟨_,rfl⟩
  have hu:usI 6 M=true:=rfl
  have hres2:res=if (W<0\/min l r<W) then-1 else if (true=true/\ex=false) then-1 else if 200<l+1 then-1 else l+1:=by
    rw [hres,widI]
    simp only [hu,show mtc 6=true from rfl,Int.reduceEq,if_true,if_false,<-hex,<-hal,true_and,false_and,and_true,or_true,true_or,or_false,false_or,Bool.false_eq_true,gt_iff_lt,ne_eq]
  clear hres hu
  cbv
  repeat' first | with_reducible rfl | (simp only [hA.eq,Int.reduceEq,decide_true,decide_false];cbv) | with_reducible refine And.intro ?_ ?_ | ((with_reducible intro hcc);first | (cases hcc;done) | skip) | ((with_reducible first | show goC _ _ _ _ _ _ _ _ | show goOps _ _ _ _ _ | show goD _ _ _ _ _ _);cbv) | ((with_reducible show okWr _ _=_);rfl) | ((with_reducible first | refine callK_f hA hP h257 ?_ ?_ ?_ | refine callK_f hA hP h258 ?_ ?_ ?_ | refine callK_f hA hP h316 ?_ ?_ ?_ | refine callK_f hA hP h317 ?_ ?_ ?_ | refine callK_f hA hP h33 ?_ ?_ ?_);exact rfl;exact rfl;cbv) | ((with_reducible refine hA.len y _ _ _ _ fun z hz hb=>?_);(have e6:=hzy.trans hz.symm);subst e6;cbv) | ((with_reducible refine hA.len xt _ _ _ _ fun z hz hb=>?_);(have e6:=hzt.trans hz.symm);subst e6;cbv) | ((with_reducible refine hA.row xw L _ ⟨hLx,fun row hrow=>?_⟩);rw [ql] at hrow;subst hrow;cbv) | ((with_reducible refine hA.row xw R _ ⟨hRx,fun row hrow=>?_⟩);rw [qr] at hrow;subst hrow;cbv) | ((with_reducible first | refine hA.fin_pl _ _ _ ?_ | refine hA.len _ _ _ _ _ fun z hz hb=>?_ | refine hA.off _ _ _ _ fun b hb=>?_ | refine hA.plus _ _ _ fun b hb=>?_ | refine hA.alt _ _ (Or.inl ?_) | refine hA.gb0 true _ ?_ | refine hA.gb0 false _ ?_ | refine hA.gb _ _ fun vb hvb=>?_);cbv) | ((with_reducible first | refine hA.st _ _ _ _ _ ⟨?_,fun ds hds=>?_⟩ | refine hA.sapp _ _ _ ⟨?_,fun sl hsl=>?_⟩);rotate_left;cbv) | (simp only [hA.lits];cbv)
  all_goals try simp only [hA.ar,inR,n_cast,Int.ofNat_eq_natCast,Option.getD_some,Option.getD_none] at *
  all_goals first
    | omega
    | trivial
    | exact gg1 _
    | exact gg2 _
    | exact gg3 _
    | exact gg4 _
    | exact gg5 _
    | exact gg6 _ _
    | (rw [hres2];done)
    | (rw [hres2];clear hres2 hel hwb;grind)
    | (clear hres2 hel hwb;grind)
    | (trace_state;fail))
set_option maxRecDepth 100000 in
set_option maxHeartbeats 8000000 in
theorem ok285_7 (T M W:Int) (Ex:List (Int×Int)) (Exs:List (List (Int×Int))) (L R:Int) (x y:List (List E)) (hx:x=Ex.map orow) (hy:y=Exs.map orr) (ts:List Tb) (xt:List (List E)) (hxt:xt=ts.map tbr) (ws:List Int) (xw:List (List E)) (hxw:xw=ws.map ir)
    (hwb: ∀w∈ws,0<=w/\w<=200) (hxl:x.length<=1048576) (hyl:y.length<=1048576) (hel: ∀e∈Exs,e.length<=1048576) (hL:0<=L/\L<ws.length) (hR:0<=R/\R<ws.length):
    Plain Try.prog 137 [.agg [.int 7,.int T,.int M,.int W,.e (.sl x),.e (.sl y),.int L,.int R],.agg [.e (.sl xt)],.e (.sl xw)] (.int (widI ⟨7,T,M,W,Ex,Exs,L,R⟩ ts.length (colsOf ts) (at0 true ws L) (at0 true ws R))):=okOf mixed p137 fun A P hA hP=>(by
  obtain ⟨zy,hzy⟩: ∃z:Int,z=y.length:=⟨_,rfl⟩
  obtain ⟨zt,hzt⟩: ∃z:Int,z=xt.length:=⟨_,rfl⟩
  have hyE:y.length=Exs.length:=by rw [hy];simp
  have hxT:xt.length=ts.length:=by rw [hxt];simp
  have hwl:xw.length=ws.length:=by rw [hxw];simp
  have hLx:(0:Int)<=L/\L<xw.length:=by omega
  obtain ⟨l,ql,ql2⟩:=int_at hxw hLx
  have hl:at0 true ws L=l:=by simp [at0,List.getD,ql2]
  have hlb:=hwb l (List.mem_of_getElem? ql2)
  rw [hl]
  have hRx:(0:Int)<=R/\R<xw.length:=by omega
  obtain ⟨r,qr,qr2⟩:=int_at hxw hRx
  have hr:at0 true ws R=r:=by simp [at0,List.getD,qr2]
  have hrb:=hwb r (List.mem_of_getElem? qr2)
  rw [hr]
  obtain ⟨res,hres⟩: ∃v:Int,v=widI ⟨7,T,M,W,Ex,Exs,L,R⟩ ts.length (colsOf ts) l r:=⟨_,rfl⟩
  rw [<-hres]
  have h257:Plain Try.prog 96 [.int 7] (.bool true):=ok96 7
  have h258:Plain Try.prog 97 [.int 7] (.bool true):=ok97 7
  have h316:Plain Try.prog 179 [.int 7] (.bool true):=ok179 7
  have h317:=ok180 7 T M W x y L R
  obtain ⟨b4,hb4⟩: ∃b,b=usI 7 M:=⟨_,rfl⟩
  rw [<-hb4] at h317
  have h33:=ok181 Ex x hx hxl r
  obtain ⟨ex,hex⟩: ∃b,b=exOk Ex r:=⟨_,rfl⟩
  rw [<-hex] at h33
  obtain ⟨al,hal⟩: ∃b,b=Exs.all fun e=>exOk e l:=⟨_,rfl⟩
  have hu:usI 7 M=b4:=hb4.symm
  have hres2:res=if (W<0\/min l r<W) then-1 else if (b4=true/\ex=false) then-1 else if 200<l+1 then-1 else l+1:=by
    rw [hres,widI]
    simp only [hu,show mtc 7=true from rfl,Int.reduceEq,if_true,if_false,<-hex,<-hal,true_and,false_and,and_true,or_true,true_or,or_false,false_or,Bool.false_eq_true,gt_iff_lt,ne_eq]
  clear hres hu hb4
  cases b4
  all_goals
    cbv
    repeat' first | with_reducible rfl | (simp only [hA.eq,Int.reduceEq,decide_true,decide_false];cbv) | with_reducible refine And.intro ?_ ?_ | ((with_reducible intro hcc);first | (cases hcc;done) | skip) | ((with_reducible first | show goC _ _ _ _ _ _ _ _ | show goOps _ _ _ _ _ | show goD _ _ _ _ _ _);cbv) | ((with_reducible show okWr _ _=_);rfl) | ((with_reducible first | refine callK_f hA hP h257 ?_ ?_ ?_ | refine callK_f hA hP h258 ?_ ?_ ?_ | refine callK_f hA hP h316 ?_ ?_ ?_ | refine callK_f hA hP h317 ?_ ?_ ?_ | refine callK_f hA hP h33 ?_ ?_ ?_);exact rfl;exact rfl;cbv) | ((with_reducible refine hA.len y _ _ _ _ fun z hz hb=>?_);(have e6:=hzy.trans hz.symm);subst e6;cbv) | ((with_reducible refine hA.len xt _ _ _ _ fun z hz hb=>?_);(have e6:=hzt.trans hz.symm);subst e6;cbv) | ((with_reducible refine hA.row xw L _ ⟨hLx,fun row hrow=>?_⟩);rw [ql] at hrow;subst hrow;cbv) | ((with_reducible refine hA.row xw R _ ⟨hRx,fun row hrow=>?_⟩);rw [qr] at hrow;subst hrow;cbv) | ((with_reducible first | refine hA.fin_pl _ _ _ ?_ | refine hA.len _ _ _ _ _ fun z hz hb=>?_ | refine hA.off _ _ _ _ fun b hb=>?_ | refine hA.plus _ _ _ fun b hb=>?_ | refine hA.alt _ _ (Or.inl ?_) | refine hA.gb0 true _ ?_ | refine hA.gb0 false _ ?_ | refine hA.gb _ _ fun vb hvb=>?_);cbv) | ((with_reducible first | refine hA.st _ _ _ _ _ ⟨?_,fun ds hds=>?_⟩ | refine hA.sapp _ _ _ ⟨?_,fun sl hsl=>?_⟩);rotate_left;cbv) | (simp only [hA.lits];cbv)
    all_goals try simp only [hA.ar,inR,n_cast,Int.ofNat_eq_natCast,Option.getD_some,Option.getD_none] at *
    all_goals first
      | omega
      | trivial
      | exact gg1 _
      | exact gg2 _
      | exact gg3 _
      | exact gg4 _
      | exact gg5 _
      | exact gg6 _ _
      | (rw [hres2];done)
      | (rw [hres2];clear hres2 hel hwb;grind)
      | (clear hres2 hel hwb;grind)
      | (trace_state;fail))
set_option maxRecDepth 100000 in
set_option maxHeartbeats 8000000 in
theorem ok285_8 (T M W:Int) (Ex:List (Int×Int)) (Exs:List (List (Int×Int))) (L R:Int) (x y:List (List E)) (hx:x=Ex.map orow) (hy:y=Exs.map orr) (ts:List Tb) (xt:List (List E)) (hxt:xt=ts.map tbr) (ws:List Int) (xw:List (List E)) (hxw:xw=ws.map ir)
    (hwb: ∀w∈ws,0<=w/\w<=200) (hxl:x.length<=1048576) (hyl:y.length<=1048576) (hel: ∀e∈Exs,e.length<=1048576) (hL:0<=L/\L<ws.length):
    Plain Try.prog 137 [.agg [.int 8,.int T,.int M,.int W,.e (.sl x),.e (.sl y),.int L,.int R],.agg [.e (.sl xt)],.e (.sl xw)] (.int (widI ⟨8,T,M,W,Ex,Exs,L,R⟩ ts.length (colsOf ts) (at0 true ws L) (at0 false ws R))):=okOf mixed p137 fun A P hA hP=>(by
  obtain ⟨zy,hzy⟩: ∃z:Int,z=y.length:=⟨_,rfl⟩
  obtain ⟨zt,hzt⟩: ∃z:Int,z=xt.length:=⟨_,rfl⟩
  have hyE:y.length=Exs.length:=by rw [hy];simp
  have hxT:xt.length=ts.length:=by rw [hxt];simp
  have hwl:xw.length=ws.length:=by rw [hxw];simp
  have hLx:(0:Int)<=L/\L<xw.length:=by omega
  obtain ⟨l,ql,ql2⟩:=int_at hxw hLx
  have hl:at0 true ws L=l:=by simp [at0,List.getD,ql2]
  have hlb:=hwb l (List.mem_of_getElem? ql2)
  rw [hl]
  rw [show at0 false ws R=0 from rfl]
  obtain ⟨res,hres⟩: ∃v:Int,v=widI ⟨8,T,M,W,Ex,Exs,L,R⟩ ts.length (colsOf ts) l 0:=⟨_,rfl⟩
  rw [<-hres]
  have h257:Plain Try.prog 96 [.int 8] (.bool true):=ok96 8
  have h258:Plain Try.prog 97 [.int 8] (.bool false):=ok97 8
  have h316:Plain Try.prog 179 [.int 8] (.bool false):=ok179 8
  have h317:Plain Try.prog 180 [.agg [.int 8,.int T,.int M,.int W,.e (.sl x),.e (.sl y),.int L,.int R]] (.bool false):=ok180 8 T M W x y L R
  have h33:=ok181 Ex x hx hxl 0
  obtain ⟨ex,hex⟩: ∃b,b=exOk Ex 0:=⟨_,rfl⟩
  rw [<-hex] at h33
  obtain ⟨al,hal⟩: ∃b,b=Exs.all fun e=>exOk e l:=⟨_,rfl⟩
  have hu:usI 8 M=false:=rfl
  have hres2:res=if 200<l then-1 else l:=by
    rw [hres,widI]
    simp only [hu,show mtc 8=false from rfl,Int.reduceEq,if_true,if_false,<-hex,<-hal,true_and,false_and,and_true,or_true,true_or,or_false,false_or,Bool.false_eq_true,gt_iff_lt,ne_eq]
  clear hres hu
  cbv
  repeat' first | with_reducible rfl | (simp only [hA.eq,Int.reduceEq,decide_true,decide_false];cbv) | with_reducible refine And.intro ?_ ?_ | ((with_reducible intro hcc);first | (cases hcc;done) | skip) | ((with_reducible first | show goC _ _ _ _ _ _ _ _ | show goOps _ _ _ _ _ | show goD _ _ _ _ _ _);cbv) | ((with_reducible show okWr _ _=_);rfl) | ((with_reducible first | refine callK_f hA hP h257 ?_ ?_ ?_ | refine callK_f hA hP h258 ?_ ?_ ?_ | refine callK_f hA hP h316 ?_ ?_ ?_ | refine callK_f hA hP h317 ?_ ?_ ?_ | refine callK_f hA hP h33 ?_ ?_ ?_);exact rfl;exact rfl;cbv) | ((with_reducible refine hA.len y _ _ _ _ fun z hz hb=>?_);(have e6:=hzy.trans hz.symm);subst e6;cbv) | ((with_reducible refine hA.len xt _ _ _ _ fun z hz hb=>?_);(have e6:=hzt.trans hz.symm);subst e6;cbv) | ((with_reducible refine hA.row xw L _ ⟨hLx,fun row hrow=>?_⟩);rw [ql] at hrow;subst hrow;cbv) | ((with_reducible first | refine hA.fin_pl _ _ _ ?_ | refine hA.len _ _ _ _ _ fun z hz hb=>?_ | refine hA.off _ _ _ _ fun b hb=>?_ | refine hA.plus _ _ _ fun b hb=>?_ | refine hA.alt _ _ (Or.inl ?_) | refine hA.gb0 true _ ?_ | refine hA.gb0 false _ ?_ | refine hA.gb _ _ fun vb hvb=>?_);cbv) | ((with_reducible first | refine hA.st _ _ _ _ _ ⟨?_,fun ds hds=>?_⟩ | refine hA.sapp _ _ _ ⟨?_,fun sl hsl=>?_⟩);rotate_left;cbv) | (simp only [hA.lits];cbv)
  all_goals try simp only [hA.ar,inR,n_cast,Int.ofNat_eq_natCast,Option.getD_some,Option.getD_none] at *
  all_goals first
    | omega
    | trivial
    | exact gg1 _
    | exact gg2 _
    | exact gg3 _
    | exact gg4 _
    | exact gg5 _
    | exact gg6 _ _
    | (rw [hres2];done)
    | (rw [hres2];clear hres2 hel hwb;grind)
    | (clear hres2 hel hwb;grind)
    | (trace_state;fail))
set_option maxRecDepth 100000 in
set_option maxHeartbeats 8000000 in
theorem ok285_9 (T M W:Int) (Ex:List (Int×Int)) (Exs:List (List (Int×Int))) (L R:Int) (x y:List (List E)) (hx:x=Ex.map orow) (hy:y=Exs.map orr) (ts:List Tb) (xt:List (List E)) (hxt:xt=ts.map tbr) (ws:List Int) (xw:List (List E)) (hxw:xw=ws.map ir)
    (hwb: ∀w∈ws,0<=w/\w<=200) (hxl:x.length<=1048576) (hyl:y.length<=1048576) (hel: ∀e∈Exs,e.length<=1048576) (hL:0<=L/\L<ws.length) (hR:0<=R/\R<ws.length):
    Plain Try.prog 137 [.agg [.int 9,.int T,.int M,.int W,.e (.sl x),.e (.sl y),.int L,.int R],.agg [.e (.sl xt)],.e (.sl xw)] (.int (widI ⟨9,T,M,W,Ex,Exs,L,R⟩ ts.length (colsOf ts) (at0 true ws L) (at0 true ws R))):=okOf mixed p137 fun A P hA hP=>(by
  obtain ⟨zy,hzy⟩: ∃z:Int,z=y.length:=⟨_,rfl⟩
  obtain ⟨zt,hzt⟩: ∃z:Int,z=xt.length:=⟨_,rfl⟩
  have hyE:y.length=Exs.length:=by rw [hy];simp
  have hxT:xt.length=ts.length:=by rw [hxt];simp
  have hwl:xw.length=ws.length:=by rw [hxw];simp
  have hLx:(0:Int)<=L/\L<xw.length:=by omega
  obtain ⟨l,ql,ql2⟩:=int_at hxw hLx
  have hl:at0 true ws L=l:=by simp [at0,List.getD,ql2]
  have hlb:=hwb l (List.mem_of_getElem? ql2)
  rw [hl]
  have hRx:(0:Int)<=R/\R<xw.length:=by omega
  obtain ⟨r,qr,qr2⟩:=int_at hxw hRx
  have hr:at0 true ws R=r:=by simp [at0,List.getD,qr2]
  have hrb:=hwb r (List.mem_of_getElem? qr2)
  rw [hr]
  obtain ⟨res,hres⟩: ∃v:Int,v=widI ⟨9,T,M,W,Ex,Exs,L,R⟩ ts.length (colsOf ts) l r:=⟨_,rfl⟩
  rw [<-hres]
  have h257:Plain Try.prog 96 [.int 9] (.bool true):=ok96 9
  have h258:Plain Try.prog 97 [.int 9] (.bool true):=ok97 9
  have h316:Plain Try.prog 179 [.int 9] (.bool false):=ok179 9
  have h317:Plain Try.prog 180 [.agg [.int 9,.int T,.int M,.int W,.e (.sl x),.e (.sl y),.int L,.int R]] (.bool false):=ok180 9 T M W x y L R
  have h33:=ok181 Ex x hx hxl r
  obtain ⟨ex,hex⟩: ∃b,b=exOk Ex r:=⟨_,rfl⟩
  rw [<-hex] at h33
  obtain ⟨al,hal⟩: ∃b,b=Exs.all fun e=>exOk e l:=⟨_,rfl⟩
  have hu:usI 9 M=false:=rfl
  have hres2:res=if¬l=r then-1 else if 200<l then-1 else l:=by
    rw [hres,widI]
    simp only [hu,show mtc 9=false from rfl,Int.reduceEq,if_true,if_false,<-hex,<-hal,true_and,false_and,and_true,or_true,true_or,or_false,false_or,Bool.false_eq_true,gt_iff_lt,ne_eq]
  clear hres hu
  cbv
  repeat' first | with_reducible rfl | (simp only [hA.eq,Int.reduceEq,decide_true,decide_false];cbv) | with_reducible refine And.intro ?_ ?_ | ((with_reducible intro hcc);first | (cases hcc;done) | skip) | ((with_reducible first | show goC _ _ _ _ _ _ _ _ | show goOps _ _ _ _ _ | show goD _ _ _ _ _ _);cbv) | ((with_reducible show okWr _ _=_);rfl) | ((with_reducible first | refine callK_f hA hP h257 ?_ ?_ ?_ | refine callK_f hA hP h258 ?_ ?_ ?_ | refine callK_f hA hP h316 ?_ ?_ ?_ | refine callK_f hA hP h317 ?_ ?_ ?_ | refine callK_f hA hP h33 ?_ ?_ ?_);exact rfl;exact rfl;cbv) | ((with_reducible refine hA.len y _ _ _ _ fun z hz hb=>?_);(have e6:=hzy.trans hz.symm);subst e6;cbv) | ((with_reducible refine hA.len xt _ _ _ _ fun z hz hb=>?_);(have e6:=hzt.trans hz.symm);subst e6;cbv) | ((with_reducible refine hA.row xw L _ ⟨hLx,fun row hrow=>?_⟩);rw [ql] at hrow;subst hrow;cbv) | ((with_reducible refine hA.row xw R _ ⟨hRx,fun row hrow=>?_⟩);rw [qr] at hrow;subst hrow;cbv) | ((with_reducible first | refine hA.fin_pl _ _ _ ?_ | refine hA.len _ _ _ _ _ fun z hz hb=>?_ | refine hA.off _ _ _ _ fun b hb=>?_ | refine hA.plus _ _ _ fun b hb=>?_ | refine hA.alt _ _ (Or.inl ?_) | refine hA.gb0 true _ ?_ | refine hA.gb0 false _ ?_ | refine hA.gb _ _ fun vb hvb=>?_);cbv) | ((with_reducible first | refine hA.st _ _ _ _ _ ⟨?_,fun ds hds=>?_⟩ | refine hA.sapp _ _ _ ⟨?_,fun sl hsl=>?_⟩);rotate_left;cbv) | (simp only [hA.lits];cbv)
  all_goals try simp only [hA.ar,inR,n_cast,Int.ofNat_eq_natCast,Option.getD_some,Option.getD_none] at *
  all_goals first
    | omega
    | trivial
    | exact gg1 _
    | exact gg2 _
    | exact gg3 _
    | exact gg4 _
    | exact gg5 _
    | exact gg6 _ _
    | (rw [hres2];done)
    | (rw [hres2];clear hres2 hel hwb;grind)
    | (clear hres2 hel hwb;grind)
    | (trace_state;fail))
set_option maxRecDepth 100000 in
set_option maxHeartbeats 8000000 in
theorem ok285_10 (T M W:Int) (Ex:List (Int×Int)) (Exs:List (List (Int×Int))) (L R:Int) (x y:List (List E)) (hx:x=Ex.map orow) (hy:y=Exs.map orr) (ts:List Tb) (xt:List (List E)) (hxt:xt=ts.map tbr) (ws:List Int) (xw:List (List E)) (hxw:xw=ws.map ir)
    (hwb: ∀w∈ws,0<=w/\w<=200) (hxl:x.length<=1048576) (hyl:y.length<=1048576) (hel: ∀e∈Exs,e.length<=1048576) (hL:0<=L/\L<ws.length) (hR:0<=R/\R<ws.length):
    Plain Try.prog 137 [.agg [.int 10,.int T,.int M,.int W,.e (.sl x),.e (.sl y),.int L,.int R],.agg [.e (.sl xt)],.e (.sl xw)] (.int (widI ⟨10,T,M,W,Ex,Exs,L,R⟩ ts.length (colsOf ts) (at0 true ws L) (at0 true ws R))):=okOf mixed p137 fun A P hA hP=>(by
  obtain ⟨zy,hzy⟩: ∃z:Int,z=y.length:=⟨_,rfl⟩
  obtain ⟨zt,hzt⟩: ∃z:Int,z=xt.length:=⟨_,rfl⟩
  have hyE:y.length=Exs.length:=by rw [hy];simp
  have hxT:xt.length=ts.length:=by rw [hxt];simp
  have hwl:xw.length=ws.length:=by rw [hxw];simp
  have hLx:(0:Int)<=L/\L<xw.length:=by omega
  obtain ⟨l,ql,ql2⟩:=int_at hxw hLx
  have hl:at0 true ws L=l:=by simp [at0,List.getD,ql2]
  have hlb:=hwb l (List.mem_of_getElem? ql2)
  rw [hl]
  have hRx:(0:Int)<=R/\R<xw.length:=by omega
  obtain ⟨r,qr,qr2⟩:=int_at hxw hRx
  have hr:at0 true ws R=r:=by simp [at0,List.getD,qr2]
  have hrb:=hwb r (List.mem_of_getElem? qr2)
  rw [hr]
  obtain ⟨res,hres⟩: ∃v:Int,v=widI ⟨10,T,M,W,Ex,Exs,L,R⟩ ts.length (colsOf ts) l r:=⟨_,rfl⟩
  rw [<-hres]
  have h257:Plain Try.prog 96 [.int 10] (.bool true):=ok96 10
  have h258:Plain Try.prog 97 [.int 10] (.bool true):=ok97 10
  have h316:Plain Try.prog 179 [.int 10] (.bool true):=ok179 10
  have h317:Plain Try.prog 180 [.agg [.int 10,.int T,.int M,.int W,.e (.sl x),.e (.sl y),.int L,.int R]] (.bool true):=ok180 10 T M W x y L R
  have h33:=ok181 Ex x hx hxl r
  obtain ⟨ex,hex⟩: ∃b,b=exOk Ex r:=⟨_,rfl⟩
  rw [<-hex] at h33
  obtain ⟨al,hal⟩: ∃b,b=Exs.all fun e=>exOk e l:=⟨_,rfl⟩
  have hu:usI 10 M=true:=rfl
  have hres2:res=if (W<0\/min l r<W) then-1 else if (true=true/\ex=false) then-1 else if 200<l then-1 else l:=by
    rw [hres,widI]
    simp only [hu,show mtc 10=true from rfl,Int.reduceEq,if_true,if_false,<-hex,<-hal,true_and,false_and,and_true,or_true,true_or,or_false,false_or,Bool.false_eq_true,gt_iff_lt,ne_eq]
  clear hres hu
  cbv
  repeat' first | with_reducible rfl | (simp only [hA.eq,Int.reduceEq,decide_true,decide_false];cbv) | with_reducible refine And.intro ?_ ?_ | ((with_reducible intro hcc);first | (cases hcc;done) | skip) | ((with_reducible first | show goC _ _ _ _ _ _ _ _ | show goOps _ _ _ _ _ | show goD _ _ _ _ _ _);cbv) | ((with_reducible show okWr _ _=_);rfl) | ((with_reducible first | refine callK_f hA hP h257 ?_ ?_ ?_ | refine callK_f hA hP h258 ?_ ?_ ?_ | refine callK_f hA hP h316 ?_ ?_ ?_ | refine callK_f hA hP h317 ?_ ?_ ?_ | refine callK_f hA hP h33 ?_ ?_ ?_);exact rfl;exact rfl;cbv) | ((with_reducible refine hA.len y _ _ _ _ fun z hz hb=>?_);(have e6:=hzy.trans hz.symm);subst e6;cbv) | ((with_reducible refine hA.len xt _ _ _ _ fun z hz hb=>?_);(have e6:=hzt.trans hz.symm);subst e6;cbv) | ((with_reducible refine hA.row xw L _ ⟨hLx,fun row hrow=>?_⟩);rw [ql] at hrow;subst hrow;cbv) | ((with_reducible refine hA.row xw R _ ⟨hRx,fun row hrow=>?_⟩);rw [qr] at hrow;subst hrow;cbv) | ((with_reducible first | refine hA.fin_pl _ _ _ ?_ | refine hA.len _ _ _ _ _ fun z hz hb=>?_ | refine hA.off _ _ _ _ fun b hb=>?_ | refine hA.plus _ _ _ fun b hb=>?_ | refine hA.alt _ _ (Or.inl ?_) | refine hA.gb0 true _ ?_ | refine hA.gb0 false _ ?_ | refine hA.gb _ _ fun vb hvb=>?_);cbv) | ((with_reducible first | refine hA.st _ _ _ _ _ ⟨?_,fun ds hds=>?_⟩ | refine hA.sapp _ _ _ ⟨?_,fun sl hsl=>?_⟩);rotate_left;cbv) | (simp only [hA.lits];cbv)
  all_goals try simp only [hA.ar,inR,n_cast,Int.ofNat_eq_natCast,Option.getD_some,Option.getD_none] at *
  all_goals first
    | omega
    | trivial
    | exact gg1 _
    | exact gg2 _
    | exact gg3 _
    | exact gg4 _
    | exact gg5 _
    | exact gg6 _ _
    | (rw [hres2];done)
    | (rw [hres2];clear hres2 hel hwb;grind)
    | (clear hres2 hel hwb;grind)
    | (trace_state;fail))
set_option maxRecDepth 100000 in
set_option maxHeartbeats 8000000 in
theorem ok285_11 (T M W:Int) (Ex:List (Int×Int)) (Exs:List (List (Int×Int))) (L R:Int) (x y:List (List E)) (hx:x=Ex.map orow) (hy:y=Exs.map orr) (ts:List Tb) (xt:List (List E)) (hxt:xt=ts.map tbr) (ws:List Int) (xw:List (List E)) (hxw:xw=ws.map ir)
    (hwb: ∀w∈ws,0<=w/\w<=200) (hxl:x.length<=1048576) (hyl:y.length<=1048576) (hel: ∀e∈Exs,e.length<=1048576) (hL:0<=L/\L<ws.length) (hR:0<=R/\R<ws.length):
    Plain Try.prog 137 [.agg [.int 11,.int T,.int M,.int W,.e (.sl x),.e (.sl y),.int L,.int R],.agg [.e (.sl xt)],.e (.sl xw)] (.int (widI ⟨11,T,M,W,Ex,Exs,L,R⟩ ts.length (colsOf ts) (at0 true ws L) (at0 true ws R))):=okOf mixed p137 fun A P hA hP=>(by
  obtain ⟨zy,hzy⟩: ∃z:Int,z=y.length:=⟨_,rfl⟩
  obtain ⟨zt,hzt⟩: ∃z:Int,z=xt.length:=⟨_,rfl⟩
  have hyE:y.length=Exs.length:=by rw [hy];simp
  have hxT:xt.length=ts.length:=by rw [hxt];simp
  have hwl:xw.length=ws.length:=by rw [hxw];simp
  have hLx:(0:Int)<=L/\L<xw.length:=by omega
  obtain ⟨l,ql,ql2⟩:=int_at hxw hLx
  have hl:at0 true ws L=l:=by simp [at0,List.getD,ql2]
  have hlb:=hwb l (List.mem_of_getElem? ql2)
  rw [hl]
  have hRx:(0:Int)<=R/\R<xw.length:=by omega
  obtain ⟨r,qr,qr2⟩:=int_at hxw hRx
  have hr:at0 true ws R=r:=by simp [at0,List.getD,qr2]
  have hrb:=hwb r (List.mem_of_getElem? qr2)
  rw [hr]
  obtain ⟨res,hres⟩: ∃v:Int,v=widI ⟨11,T,M,W,Ex,Exs,L,R⟩ ts.length (colsOf ts) l r:=⟨_,rfl⟩
  rw [<-hres]
  have h257:Plain Try.prog 96 [.int 11] (.bool true):=ok96 11
  have h258:Plain Try.prog 97 [.int 11] (.bool true):=ok97 11
  have h316:Plain Try.prog 179 [.int 11] (.bool true):=ok179 11
  have h317:Plain Try.prog 180 [.agg [.int 11,.int T,.int M,.int W,.e (.sl x),.e (.sl y),.int L,.int R]] (.bool true):=ok180 11 T M W x y L R
  have h33:=ok181 Ex x hx hxl r
  obtain ⟨ex,hex⟩: ∃b,b=exOk Ex r:=⟨_,rfl⟩
  rw [<-hex] at h33
  obtain ⟨al,hal⟩: ∃b,b=Exs.all fun e=>exOk e l:=⟨_,rfl⟩
  have hu:usI 11 M=true:=rfl
  have hres2:res=if (W<0\/min l r<W) then-1 else if (true=true/\ex=false) then-1 else if 200<l then-1 else l:=by
    rw [hres,widI]
    simp only [hu,show mtc 11=true from rfl,Int.reduceEq,if_true,if_false,<-hex,<-hal,true_and,false_and,and_true,or_true,true_or,or_false,false_or,Bool.false_eq_true,gt_iff_lt,ne_eq]
  clear hres hu
  cbv
  repeat' first | with_reducible rfl | (simp only [hA.eq,Int.reduceEq,decide_true,decide_false];cbv) | with_reducible refine And.intro ?_ ?_ | ((with_reducible intro hcc);first | (cases hcc;done) | skip) | ((with_reducible first | show goC _ _ _ _ _ _ _ _ | show goOps _ _ _ _ _ | show goD _ _ _ _ _ _);cbv) | ((with_reducible show okWr _ _=_);rfl) | ((with_reducible first | refine callK_f hA hP h257 ?_ ?_ ?_ | refine callK_f hA hP h258 ?_ ?_ ?_ | refine callK_f hA hP h316 ?_ ?_ ?_ | refine callK_f hA hP h317 ?_ ?_ ?_ | refine callK_f hA hP h33 ?_ ?_ ?_);exact rfl;exact rfl;cbv) | ((with_reducible refine hA.len y _ _ _ _ fun z hz hb=>?_);(have e6:=hzy.trans hz.symm);subst e6;cbv) | ((with_reducible refine hA.len xt _ _ _ _ fun z hz hb=>?_);(have e6:=hzt.trans hz.symm);subst e6;cbv) | ((with_reducible refine hA.row xw L _ ⟨hLx,fun row hrow=>?_⟩);rw [ql] at hrow;subst hrow;cbv) | ((with_reducible refine hA.row xw R _ ⟨hRx,fun row hrow=>?_⟩);rw [qr] at hrow;subst hrow;cbv) | ((with_reducible first | refine hA.fin_pl _ _ _ ?_ | refine hA.len _ _ _ _ _ fun z hz hb=>?_ | refine hA.off _ _ _ _ fun b hb=>?_ | refine hA.plus _ _ _ fun b hb=>?_ | refine hA.alt _ _ (Or.inl ?_) | refine hA.gb0 true _ ?_ | refine hA.gb0 false _ ?_ | refine hA.gb _ _ fun vb hvb=>?_);cbv) | ((with_reducible first | refine hA.st _ _ _ _ _ ⟨?_,fun ds hds=>?_⟩ | refine hA.sapp _ _ _ ⟨?_,fun sl hsl=>?_⟩);rotate_left;cbv) | (simp only [hA.lits];cbv)
  all_goals try simp only [hA.ar,inR,n_cast,Int.ofNat_eq_natCast,Option.getD_some,Option.getD_none] at *
  all_goals first
    | omega
    | trivial
    | exact gg1 _
    | exact gg2 _
    | exact gg3 _
    | exact gg4 _
    | exact gg5 _
    | exact gg6 _ _
    | (rw [hres2];done)
    | (rw [hres2];clear hres2 hel hwb;grind)
    | (clear hres2 hel hwb;grind)
    | (trace_state;fail))
theorem ok137 (K T M W:Int) (Ex:List (Int×Int)) (Exs:List (List (Int×Int))) (L R:Int) (x y:List (List E)) (hx:x=Ex.map orow) (hy:y=Exs.map orr) (ts:List Tb) (xt:List (List E)) (hxt:xt=ts.map tbr) (ws:List Int) (xw:List (List E)) (hxw:xw=ws.map ir)
    (hwb: ∀w∈ws,0<=w/\w<=200) (hxl:x.length<=1048576) (hyl:y.length<=1048576) (hel: ∀e∈Exs,e.length<=1048576) (hf:fldI ⟨K,T,M,W,Ex,Exs,L,R⟩ ws.length=true):
    Plain Try.prog 137 [.agg [.int K,.int T,.int M,.int W,.e (.sl x),.e (.sl y),.int L,.int R],.agg [.e (.sl xt)],.e (.sl xw)] (.int (widI ⟨K,T,M,W,Ex,Exs,L,R⟩ ts.length (colsOf ts) (at0 (lef K) ws L) (at0 (rig K) ws R))):=by
  simp only [fldI,Bool.and_eq_true,decide_eq_true_eq] at hf
  obtain ⟨hK,hL,hR,_⟩:=hf
  have c:K=1\/K=2\/K=3\/K=4\/K=5\/K=6\/K=7\/K=8\/K=9\/K=10\/K=11:=by omega
  have hp: ∀p:Int,plc true p ws.length=true->0<=p/\p<ws.length:=fun p h=>of_decide_eq_true h
  rcases c with rfl | rfl | rfl | rfl | rfl | rfl | rfl | rfl | rfl | rfl | rfl
  · exact ok285_1 T M W Ex Exs L R x y hx hy ts xt hxt ws xw hxw hwb hxl hyl hel
  · exact ok285_2 T M W Ex Exs L R x y hx hy ts xt hxt ws xw hxw hwb hxl hyl hel
  · exact ok285_3 T M W Ex Exs L R x y hx hy ts xt hxt ws xw hxw hwb hxl hyl hel (hp L hL)
  · exact ok285_4 T M W Ex Exs L R x y hx hy ts xt hxt ws xw hxw hwb hxl hyl hel (hp L hL)
  · exact ok285_5 T M W Ex Exs L R x y hx hy ts xt hxt ws xw hxw hwb hxl hyl hel (hp L hL) (hp R hR)
  · exact ok285_6 T M W Ex Exs L R x y hx hy ts xt hxt ws xw hxw hwb hxl hyl hel (hp L hL) (hp R hR)
  · exact ok285_7 T M W Ex Exs L R x y hx hy ts xt hxt ws xw hxw hwb hxl hyl hel (hp L hL) (hp R hR)
  · exact ok285_8 T M W Ex Exs L R x y hx hy ts xt hxt ws xw hxw hwb hxl hyl hel (hp L hL)
  · exact ok285_9 T M W Ex Exs L R x y hx hy ts xt hxt ws xw hxw hwb hxl hyl hel (hp L hL) (hp R hR)
  · exact ok285_10 T M W Ex Exs L R x y hx hy ts xt hxt ws xw hxw hwb hxl hyl hel (hp L hL) (hp R hR)
  · exact ok285_11 T M W Ex Exs L R x y hx hy ts xt hxt ws xw hxw hwb hxl hyl hel (hp L hL) (hp R hR)
end Go.Proofs.Ytfplalbognalkaa.Ab
/- Several results, each taken for less. -/
namespace Go.Proofs.Ytfplalbognalkaa.Ab
open Go
theorem fin_tup {l:List O} {ds' ds:List D} (h:ds'.map D.pl=ds) (hf:(D.tup ds).free=true):FinW l (.tup ds') (.tup ds):=by
  intro w G v hi hr
  refine ⟨G,?_,inv_nil hi,fun w0 G0 e=>?_⟩
  · have:Rv w G (hpF l) v (.tup ds):=by
      subst h
      cases hr with
      | tup hl hr=>
        refine .tup (by rw [List.length_map];exact hl) fun j c d hc hd=>?_
        rw [List.getElem?_map] at hd
        cases hq:ds'[j]? with
        | none=>rw [hq] at hd;simp at hd
        | some d0=>
          rw [hq] at hd
          cases hd
          exact (hr j c d0 hc hq).pl
    exact this.free hf rfl rfl
  · rw [hpF_nil] at e ⊢
    exact ⟨e.os,e.tape,e.output,e.size,e.pub,fun i ds h=>by simp at h,fun i n k h=>by simp at h,e.others,fun i h=>by simp [O.has] at h,e.pubnew,fun i b k ds h=>by simp at h,fun i h=>by simp at h,fun i l h=>by simp at h,e.sgm,fun i m h=>by simp at h,fun i R h=>by simp at h,fun i R h=>by simp at h,fun i m h=>by simp at h,e.sgn,e.sgw⟩
theorem Ar.Ok.fin_tup {A:Ar} (h:A.Ok) (l:List O) (ds' ds:List D) (e:ds'.map D.pl=ds):A.fin l (.tup ds') (.tup ds):=h.fin _ _ _ fun hf=>Ab.fin_tup e hf
end Go.Proofs.Ytfplalbognalkaa.Ab
/- Flat plans: the widths of all nodes. -/
namespace Go.Proofs.Ytfplalbognalkaa.Ab
open Go
def runF (nt:Int) (cols:Int->Int):List Fd->List Int->List Int×Bool
  | [],ws=>(ws,true)
  | d::r,ws=>match stS nt cols ws d with
    | some w=>runF nt cols r (ws++ [w])
    | none=>(ws,false)
theorem runF_some {nt:Int} {cols:Int->Int} {d:Fd} {r:List Fd} {ws:List Int} {w:Int} (h:stS nt cols ws d=some w):runF nt cols (d::r) ws=runF nt cols r (ws++ [w]):=by rw [runF,h]
theorem runF_none {nt:Int} {cols:Int->Int} {d:Fd} {r:List Fd} {ws:List Int} (h:stS nt cols ws d=none):runF nt cols (d::r) ws=(ws,false):=by rw [runF,h]
theorem fd_at {ns:List Fd} {es:List (List E)} (he:es=ns.map fdr) {i:Int} (h:0<=i/\i<es.length): ∃K T M W Ex Exs L R xe ye,ns[i.toNat]?=some ⟨K,T,M,W,Ex,Exs,L,R⟩/\xe=Ex.map orow/\ye=Exs.map orr/\es.getD i.toNat []= [E.int K,E.int T,E.int M,E.int W,E.sl xe,E.sl ye,E.int L,E.int R]:=by
  obtain ⟨⟨K,T,M,W,Ex,Exs,L,R⟩,e,q⟩:=row_at he h
  exact ⟨K,T,M,W,Ex,Exs,L,R,_,_,q,rfl,rfl,e⟩
theorem gg7: ∀b:Bool,(match decide (b=false) with | true=>decide (b=false)=true | false=>True):=fun b=>by cases b <;>simp
theorem plc_true {p i:Int} (h:plc true p i=true):0<=p/\p<i:=of_decide_eq_true h
abbrev fhp (x xt:List (List E)) (rt:Int) (n:Nat):List O:= [.box [.e (.sl x),.int rt],.box [.e (.sl xt)],.front n 1]
theorem fhp_side {env:RF->List (Nat×D)} {x xt:List (List E)} {rt:Int} {n:Nat} (h1: ∀t,env t=renEnv t (env id)) (h2:ltEnv 3 (env id)=true):SideW env (fun _=>fhp x xt rt n):=
  ⟨h1,h2,fun t=>rfl,by
    intro o ho
    simp only [List.mem_cons,List.not_mem_nil,or_false] at ho
    rcases ho with rfl | rfl | rfl
    · rfl
    · rfl
    · rfl⟩
theorem fldS_in {d:Fd} {i nt:Int} (h:fldS d i nt=true):(one d.K=true->0<=d.L/\d.L<i)/\(two d.K=true->0<=d.R/\d.R<i)/\(d.K=2->0<=d.T/\d.T<nt):=by
  simp only [fldS,Bool.and_eq_true] at h
  obtain ⟨_,h2,_,h4,h5,_⟩:=h
  refine ⟨fun a=>?_,fun a=>?_,fun a=>?_⟩
  · rw [a] at h4;exact plc_true h4
  · rw [a] at h5;exact plc_true h5
  · rw [if_pos a] at h2;exact of_decide_eq_true h2
set_option maxRecDepth 100000 in
set_option maxHeartbeats 8000000 in
theorem ok74 (ns:List Fd) (rt:Int) (x:List (List E)) (hx:x=ns.map fdr) (ts:List Tb) (xt:List (List E)) (hxt:xt=ts.map tbr) (hxl:x.length<=1048576) (hlen: ∀d∈ns,d.Ex.length<=1048576/\d.Exs.length<=1048576/\ ∀e∈d.Exs,e.length<=1048576)
    (ws0:List Int) (b0:Bool) (hr0:runF ts.length (colsOf ts) ns []=(ws0,b0)) (xr:List (List E)) (hxr:xr=ws0.map ir):
    Plain Try.prog 74 [.agg [.e (.sl x),.int rt],.agg [.e (.sl xt)]] (.tup [.e (.sl xr),.bool b0]):=okOf mixed p74 fun A P hA hP=>(by
  have hel:x.length=ns.length:=by rw [hx];simp
  have htl:xt.length=ts.length:=by rw [hxt];simp
  obtain ⟨ze,hze⟩: ∃z:Int,z=x.length:=⟨_,rfl⟩
  cbv
  repeat' first | with_reducible rfl | with_reducible refine And.intro ?_ ?_ | ((with_reducible intro hcc);first | (cases hcc;done) | skip) | ((with_reducible first | show goC _ _ _ _ _ _ _ _ | show goOps _ _ _ _ _ | show goD _ _ _ _ _ _);cbv) | ((with_reducible show okWr _ _=_);rfl) | ((with_reducible first | refine hA.fin_pl _ _ _ ?_ | refine hA.len _ _ _ _ _ fun z hz hb=>?_ | refine hA.off _ _ _ _ fun b hb=>?_ | refine hA.plus _ _ _ fun b hb=>?_ | refine hA.alt _ _ (Or.inl ?_) | refine hA.gb0 true _ ?_ | refine hA.gb0 false _ ?_ | refine hA.gb _ _ fun vb hvb=>?_);cbv) | ((with_reducible first | refine hA.app _ _ _ _ _ ⟨?_,fun zs m hzs hm=>?_⟩ | refine hA.app0 _ _ _ ⟨?_,fun m hm=>?_⟩ | refine hA.st _ _ _ _ _ ⟨?_,fun ds hds=>?_⟩ | refine hA.appv _ _ _ _ _ _ ⟨?_,fun bb m ds hbb hm hds=>?_⟩ | refine hA.vcut _ _ _ _ ⟨?_,fun cs hcs=>?_⟩ | refine hA.appw _ _ _ _ _ _ _ ⟨?_,fun bb m ds hbb hm hds=>?_⟩ | refine hA.sapp _ _ _ ⟨?_,fun sl hsl=>?_⟩);rotate_left;cbv) | (simp only [hA.lits];cbv)
  all_goals try simp only [hA.ar,inR,n_cast,Int.ofNat_eq_natCast,Option.getD_some,Option.getD_none] at *
  all_goals try omega
  refine hA.loopI (fun m s=> ∃(i:Int) (ws:List Int) (xw:List (List E)),0<=i/\m+i=x.length/\ws.length=i.toNat/\(∀w∈ws,0<=w/\w<=200)/\runF ts.length (colsOf ts) (ns.drop i.toNat) ws=(ws0,b0)/\xw=ws.map ir/\s=⟨[(7,.int i),(6,.own 2 xw),(2,.ref 0 0),(3,.ref 1 0)],fhp x xt rt xw.length⟩) x.length _
    ((Weak.zown 6 1 rfl).trans (Weak.keep (env':= [(7,.int 0),(6,.own 2 []),(2,.ref 0 0),(3,.ref 1 0)]) ⟨rfl,rfl,rfl,rfl,trivial⟩)) ⟨0, [], [],by omega,by omega,rfl,(fun w h=>by cases h),hr0,rfl,rfl⟩ ?_
  rintro m s K1 ⟨i,ws,xw,i0,i1,i2,i3,hrun,hxw,rfl⟩ hK
  have hxwl:xw.length=i.toNat:=by rw [hxw,List.length_map,i2]
  obtain ⟨kx,hkx⟩: ∃k,k=xw.length:=⟨_,rfl⟩
  rw [<-hkx]
  by_cases hi:(0:Int)<=i/\i<x.length
  · obtain ⟨K,T,M,W,Ex,Exs,L,R,xe,ye,q0,hxe,hye,q1⟩:=fd_at hx hi
    have hmem:(⟨K,T,M,W,Ex,Exs,L,R⟩:Fd)∈ns:=List.mem_of_getElem? q0
    obtain ⟨z1,z2,z3⟩:=hlen _ hmem
    have hxel:xe.length<=1048576:=by rw [hxe,List.length_map];exact z1
    have hyel:ye.length<=1048576:=by rw [hye,List.length_map];exact z2
    have hdr:ns.drop i.toNat=⟨K,T,M,W,Ex,Exs,L,R⟩::ns.drop (i.toNat+1):=by
      obtain ⟨a,c⟩:=List.getElem?_eq_some_iff.1 q0
      rw [List.drop_eq_getElem_cons a,c]
    rw [hdr] at hrun
    have e8:A.lt i ze=true:=by rw [hA.lt];exact decide_eq_true (by omega)
    have hwi:(ws.length:Int)=i:=by omega
    have h279:=ok129 K T M W Ex Exs L R xe ye hxe hye i xt
    obtain ⟨fo,hfo⟩: ∃b,b=fldS ⟨K,T,M,W,Ex,Exs,L,R⟩ i xt.length:=⟨_,rfl⟩
    rw [<-hfo] at h279
    rw [htl,<-hwi] at hfo
    cases fo
    case false=>
      rw [runF_none (by rw [stS,if_neg];rw [<-hfo];simp)] at hrun
      have y1:ws0=ws:=(congrArg Prod.fst hrun).symm
      have y2:b0=false:=(congrArg Prod.snd hrun).symm
      have hxx:xr=xw:=by rw [hxr,y1,hxw]
      clear hK hrun hlen i3
      cbv
      repeat' first | with_reducible rfl | (simp only [e8];cbv) | with_reducible refine And.intro ?_ ?_ | ((with_reducible intro hcc);first | (cases hcc;done) | skip) | ((with_reducible first | show goC _ _ _ _ _ _ _ _ | show goOps _ _ _ _ _ | show goD _ _ _ _ _ _);cbv) | ((with_reducible show okWr _ _=_);rfl) | (with_reducible refine hA.fin_tup _ _ _ ?_) | ((with_reducible first | refine callK_f hA hP h279 ?_ ?_ ?_);exact rfl;exact rfl;cbv) | ((with_reducible refine hA.len x _ _ _ _ fun z hz hb=>?_);(have e6:=hze.trans hz.symm);subst e6;cbv) | ((with_reducible refine hA.row x i _ ⟨hi,fun row hrow=>?_⟩);rw [q1] at hrow;subst hrow;cbv) | ((with_reducible refine hA.st [_,_,_,_,_,_,_,_] _ _ _ _ ⟨?_,fun ds hds=>?_⟩);rotate_left;(have hds:ds= [.int K,.int T,.int M,.int W,.e (.sl xe),.e (.sl ye),.int L,.int R]:=hds);subst hds;cbv) | ((with_reducible first | refine hA.fin_pl _ _ _ ?_ | refine hA.len _ _ _ _ _ fun z hz hb=>?_ | refine hA.off _ _ _ _ fun b hb=>?_ | refine hA.plus _ _ _ fun b hb=>?_ | refine hA.alt _ _ (Or.inl ?_) | refine hA.gb0 true _ ?_ | refine hA.gb0 false _ ?_ | refine hA.gb _ _ fun vb hvb=>?_);cbv) | ((with_reducible first | refine hA.app _ _ _ _ _ ⟨?_,fun zs m hzs hm=>?_⟩ | refine hA.app0 _ _ _ ⟨?_,fun m hm=>?_⟩ | refine hA.st _ _ _ _ _ ⟨?_,fun ds hds=>?_⟩ | refine hA.appv _ _ _ _ _ _ ⟨?_,fun bb m ds hbb hm hds=>?_⟩ | refine hA.vcut _ _ _ _ ⟨?_,fun cs hcs=>?_⟩ | refine hA.appw _ _ _ _ _ _ _ ⟨?_,fun bb m ds hbb hm hds=>?_⟩ | refine hA.sapp _ _ _ ⟨?_,fun sl hsl=>?_⟩);rotate_left;cbv) | (simp only [hA.lits];cbv)
      all_goals try simp only [hA.ar,inR,n_cast,Int.ofNat_eq_natCast,Option.getD_some,Option.getD_none] at *
      all_goals first
        | omega
        | (rw [hxx,y2];rfl)
        | (simp;done)
        | (trace_state;fail)
    case true=>
      obtain ⟨g1,g2,g3⟩:=fldS_in hfo.symm
      have h280:=ok130 K
      obtain ⟨b1,hb1⟩: ∃b,b=one K:=⟨_,rfl⟩
      have h281:=ok131 K
      obtain ⟨b2,hb2⟩: ∃b,b=two K:=⟨_,rfl⟩
      rw [<-hb1] at h280 g1
      rw [<-hb2] at h281 g2
      obtain ⟨l,hl⟩: ∃v,v=at0 b1 ws L:=⟨_,rfl⟩
      obtain ⟨r,hr⟩: ∃v,v=at0 b2 ws R:=⟨_,rfl⟩
      have hst:stS ts.length (colsOf ts) ws ⟨K,T,M,W,Ex,Exs,L,R⟩=if widS ⟨K,T,M,W,Ex,Exs,L,R⟩ (colsOf ts) l r<0\/widS ⟨K,T,M,W,Ex,Exs,L,R⟩ (colsOf ts) l r>200 then none else some (widS ⟨K,T,M,W,Ex,Exs,L,R⟩ (colsOf ts) l r):=by
        rw [stS,if_pos hfo.symm,hl,hr,hb1,hb2]
      have hLr:b1=true->(0<=L/\L<xw.length)/\xw.getD L.toNat []= [E.int l]/\0<=l/\l<=200:=fun h=>by
        have h1:=g1 h
        have h2:(0:Int)<=L/\L<xw.length:=by simp only at h1;omega
        obtain ⟨p,qp,qq⟩:=int_at hxw h2
        have h3:l=p:=by rw [hl,h];simp [at0,List.getD,qq]
        rw [h3]
        exact ⟨h2,qp,i3 p (List.mem_of_getElem? qq)⟩
      have hl0:b1=false->l=0:=fun h=>by rw [hl,h];rfl
      have hRr:b2=true->(0<=R/\R<xw.length)/\xw.getD R.toNat []= [E.int r]/\0<=r/\r<=200:=fun h=>by
        have h1:=g2 h
        have h2:(0:Int)<=R/\R<xw.length:=by simp only at h1;omega
        obtain ⟨p,qp,qq⟩:=int_at hxw h2
        have h3:r=p:=by rw [hr,h];simp [at0,List.getD,qq]
        rw [h3]
        exact ⟨h2,qp,i3 p (List.mem_of_getElem? qq)⟩
      have hr00:b2=false->r=0:=fun h=>by rw [hr,h];rfl
      have hlb:0<=l/\l<=200:=by
        cases hb:b1
        · rw [hl0 hb];omega
        · exact (hLr hb).2.2
      have hrb:0<=r/\r<=200:=by
        cases hb:b2
        · rw [hr00 hb];omega
        · exact (hRr hb).2.2
      have h282:=ok132 K T M W Ex Exs L R xe ye hxe hye ts xt hxt l r hlb hrb (fun h=>by have:=g3 h;simp only at this;exact this) hxel hyel z3
      obtain ⟨w,hw⟩: ∃w,w=widS ⟨K,T,M,W,Ex,Exs,L,R⟩ (colsOf ts) l r:=⟨_,rfl⟩
      rw [<-hw] at h282 hst
      have f1:(w<0\/w>200)->xr=xw/\b0=false:=fun h=>by
        rw [if_pos h] at hst
        rw [runF_none hst] at hrun
        exact ⟨by rw [hxr,<-show ws=ws0 from congrArg Prod.fst hrun,hxw],(congrArg Prod.snd hrun).symm⟩
      have hK2: ∀(zs:List (List E)) (mm:Nat) (env:List (Nat×D)) (hp:List O),¬(w<0\/w>200)->zs=xw++ [[E.int w]]->mm=zs.length->hpF hp 0= .box [.e (.sl x),.int rt]->hpF hp 1= .box [.e (.sl xt)]->hpF hp 2= .front mm 1->subW [(7,.int (i+1)),(6,.own 2 zs),(2,.ref 0 0),(3,.ref 1 0)] env->K1 ⟨env,hp⟩:=fun zs mm env hp t0 t1 t2 t3 t4 t5 t6=>
        hK _ (m-1) _ (by omega) (Weak.ren (l0:= []) [0,1,2] (fun t=> [(7,.int (i+1)),(6,.own (t 2) zs),(2,.ref (t 0) 0),(3,.ref (t 1) 0)]) (fun _=>fhp x xt rt zs.length) rfl t6 ⟨t3,t4,by rw [t5,t2],trivial⟩ (fhp_side (fun t=>rfl) rfl))
          ⟨i+1,ws++ [w],zs,by omega,by omega,by simp;omega,fun v hv=>by
            rcases List.mem_append.1 hv with hv | hv
            · exact i3 v hv
            · rw [List.mem_singleton.1 hv];omega,by
            rw [if_neg t0] at hst
            rw [show (i+1).toNat=i.toNat+1 by omega,<-runF_some hst];exact hrun,by rw [t1,hxw,List.map_append];rfl,rfl⟩
      clear hK hrun hlen i3 hst hl hr hb1 hb2 g1 g2 g3 hfo hw hr0
      have vw1:A.lt w 0=decide (w<0):=hA.lt _ _
      cases b1 <;>cases b2
      all_goals
        try (have hl1:=hl0 rfl;subst hl1)
        try (have hr1:=hr00 rfl;subst hr1)
        try have hLx:=(hLr rfl).1
        try have qL:=(hLr rfl).2.1
        try have hRx:=(hRr rfl).1
        try have qR:=(hRr rfl).2.1
        clear hl0 hr00 hLr hRr
        cbv
        repeat' first | with_reducible rfl | (simp only [e8];cbv) | with_reducible refine And.intro ?_ ?_ | ((with_reducible intro hcc);first | (cases hcc;done) | skip) | ((with_reducible first | show goC _ _ _ _ _ _ _ _ | show goOps _ _ _ _ _ | show goD _ _ _ _ _ _);cbv) | ((with_reducible show okWr _ _=_);rfl) | (with_reducible refine hA.fin_tup _ _ _ ?_) | ((with_reducible first | refine callK_f hA hP h279 ?_ ?_ ?_ | refine callK_f hA hP h280 ?_ ?_ ?_ | refine callK_f hA hP h281 ?_ ?_ ?_ | refine callK_f hA hP h282 ?_ ?_ ?_);exact rfl;exact rfl;cbv) | ((with_reducible refine hA.len x _ _ _ _ fun z hz hb=>?_);(have e6:=hze.trans hz.symm);subst e6;cbv) | ((with_reducible refine hA.row x i _ ⟨hi,fun row hrow=>?_⟩);rw [q1] at hrow;subst hrow;cbv) | ((with_reducible refine hA.row xw L _ ⟨hLx,fun row hrow=>?_⟩);rw [qL] at hrow;subst hrow;cbv) | ((with_reducible refine hA.row xw R _ ⟨hRx,fun row hrow=>?_⟩);rw [qR] at hrow;subst hrow;cbv) | ((with_reducible refine hA.st [_,_,_,_,_,_,_,_] _ _ _ _ ⟨?_,fun ds hds=>?_⟩);rotate_left;(have hds:ds= [.int K,.int T,.int M,.int W,.e (.sl xe),.e (.sl ye),.int L,.int R]:=hds);subst hds;cbv) | ((with_reducible first | refine hA.fin_pl _ _ _ ?_ | refine hA.len _ _ _ _ _ fun z hz hb=>?_ | refine hA.off _ _ _ _ fun b hb=>?_ | refine hA.plus _ _ _ fun b hb=>?_ | refine hA.alt _ _ (Or.inl ?_) | refine hA.gb0 true _ ?_ | refine hA.gb0 false _ ?_ | refine hA.gb _ _ fun vb hvb=>?_);cbv) | ((with_reducible first | refine hA.app _ _ _ _ _ ⟨?_,fun zs m hzs hm=>?_⟩ | refine hA.app0 _ _ _ ⟨?_,fun m hm=>?_⟩ | refine hA.st _ _ _ _ _ ⟨?_,fun ds hds=>?_⟩ | refine hA.appv _ _ _ _ _ _ ⟨?_,fun bb m ds hbb hm hds=>?_⟩ | refine hA.vcut _ _ _ _ ⟨?_,fun cs hcs=>?_⟩ | refine hA.appw _ _ _ _ _ _ _ ⟨?_,fun bb m ds hbb hm hds=>?_⟩ | refine hA.sapp _ _ _ ⟨?_,fun sl hsl=>?_⟩);rotate_left;cbv) | (simp only [hA.lits];cbv)
        all_goals try simp only [hA.ar,inR,n_cast,Int.ofNat_eq_natCast,Option.getD_some,Option.getD_none] at *
        all_goals first
          | omega
          | trivial
          | exact gg1 _
          | exact gg2 _
          | exact gg3 _
          | exact gg4 _
          | exact gg5 _
          | exact gg7 _
          | (rw [(f1 (by clear f1 hK2;grind)).1,(f1 (by clear f1 hK2;grind)).2];rfl)
          | exact hK2 _ _ _ _ (by clear f1 hK2;grind) hzs hm rfl rfl rfl ⟨.inl rfl,.inl rfl,.inl rfl,.inl rfl,trivial⟩
          | (rw [hkx];done)
          | exact ⟨rfl,trivial⟩
          | (simp;done)
          | (simp only [List.length_cons,List.length_nil];omega)
          | (trace_state;fail)
  · have e8:A.lt i ze=false:=by rw [hA.lt];exact decide_eq_false (by omega)
    rw [List.drop_eq_nil_of_le (by omega),runF] at hrun
    have y1:ws0=ws:=(congrArg Prod.fst hrun).symm
    have y2:b0=true:=(congrArg Prod.snd hrun).symm
    have hxx:xr=xw:=by rw [hxr,y1,hxw]
    clear hK hrun hlen i3
    cbv
    repeat' first | with_reducible rfl | (simp only [e8];cbv) | with_reducible refine And.intro ?_ ?_ | ((with_reducible intro hcc);first | (cases hcc;done) | skip) | ((with_reducible first | show goC _ _ _ _ _ _ _ _ | show goOps _ _ _ _ _ | show goD _ _ _ _ _ _);cbv) | ((with_reducible show okWr _ _=_);rfl) | (with_reducible refine hA.fin_tup _ _ _ ?_) | ((with_reducible refine hA.len x _ _ _ _ fun z hz hb=>?_);(have e6:=hze.trans hz.symm);subst e6;cbv) | ((with_reducible first | refine hA.fin_pl _ _ _ ?_ | refine hA.len _ _ _ _ _ fun z hz hb=>?_ | refine hA.off _ _ _ _ fun b hb=>?_ | refine hA.plus _ _ _ fun b hb=>?_ | refine hA.alt _ _ (Or.inl ?_) | refine hA.gb0 true _ ?_ | refine hA.gb0 false _ ?_ | refine hA.gb _ _ fun vb hvb=>?_);cbv) | ((with_reducible first | refine hA.app _ _ _ _ _ ⟨?_,fun zs m hzs hm=>?_⟩ | refine hA.app0 _ _ _ ⟨?_,fun m hm=>?_⟩ | refine hA.st _ _ _ _ _ ⟨?_,fun ds hds=>?_⟩ | refine hA.appv _ _ _ _ _ _ ⟨?_,fun bb m ds hbb hm hds=>?_⟩ | refine hA.vcut _ _ _ _ ⟨?_,fun cs hcs=>?_⟩ | refine hA.appw _ _ _ _ _ _ _ ⟨?_,fun bb m ds hbb hm hds=>?_⟩ | refine hA.sapp _ _ _ ⟨?_,fun sl hsl=>?_⟩);rotate_left;cbv) | (simp only [hA.lits];cbv)
    all_goals try simp only [hA.ar,inR,n_cast,Int.ofNat_eq_natCast,Option.getD_some,Option.getD_none] at *
    all_goals first
      | omega
      | (rw [hxx,y2];rfl)
      | (trace_state;fail))
end Go.Proofs.Ytfplalbognalkaa.Ab
/- The specification's simplified plans: its pieces, walked. -/
namespace Go.Proofs.Ytfplalbognalkaa.Ab
open Go
def c150:F:=⟨8, [(.tmp 2)],(.seq (.reg [ZA 2 (.mov (.c .zs))]) (.seq (.reg [ZA 4 (.lit 2 [(.v (.int .i64 0)),(.v (.int .i64 0))] 0 []),ZA 3 (.mov 4)]) (.seq (.reg [ZA 5 (.mov 3),ZA 6 (.mov 0),ZA 7 (.app 2 5 6),ZA 2 (.mov 7)]) .ret)))⟩
theorem p150:prepF Try.prog 150=some c150:=by kernel_rfl
def c151:F:=⟨21, [(.tmp 2)],(.seq (.reg [ZA 2 (.mov (.c .zs))]) (.seq (.reg [ZA 5 (.lit 1 [(.sl [])] 0 []),ZA 3 (.mov 5)]) (.seq (.seq (.reg [ZA 4 (.mov (.c (.int 0)))]) (.block 0 (.loop (.seq (.seq (.reg [ZA 6 (.mov 4),ZA 7 (.mov 0),ZA 8 (.lenl 7),ZA 9 (.bin .lss 6 8)]) (.cond 9 .skip (.exit 0))) (.seq (.block 1 (.reg [ZA 12 (.mov 3),ZA 13 (.mov 0),ZA 14 (.mov 4),ZA 15 (.iadr none 1 13 14),ZA 16 (.load false 1 15),ZA 17 (.call 150 [16]),ZA 18 (.lit 1 [(.sl [])] 1 [(0,17)]),ZA 19 (.app 1 12 18),ZA 3 (.mov 19)])) (.reg [ZA 10 (.mov 4),ZA 11 (.bin .add 10 (.c (.int 1))),ZA 4 (.mov 11)])))))) (.seq (.reg [ZA 20 (.mov 3),ZA 2 (.mov 20)]) .ret))))⟩
theorem p151:prepF Try.prog 151=some c151:=by kernel_rfl
def c95:F:=⟨18, [(.tmp 2)],(.seq (.reg [ZA 2 (.mov (.c .zs))]) (.seq (.reg [ZA 5 (.lit 1 [(.sl [])] 0 []),ZA 3 (.mov 5)]) (.seq (.seq (.reg [ZA 4 (.mov (.c (.int 0)))]) (.block 0 (.loop (.seq (.seq (.reg [ZA 6 (.mov 4),ZA 7 (.mov 0),ZA 8 (.bin .lss 6 7)]) (.cond 8 .skip (.exit 0))) (.seq (.block 1 (.reg [ZA 11 (.mov 3),ZA 12 (.mov 4),ZA 13 (.build [(.int 0),(.int 0)] [(0,(1,(.c (.int 3)))),(1,(1,12))]),ZA 14 (.lit 2 [(.v (.int .i64 0)),(.v (.int .i64 0))] 1 [(0,13)]),ZA 15 (.lit 1 [(.sl [])] 1 [(0,14)]),ZA 16 (.app 1 11 15),ZA 3 (.mov 16)])) (.reg [ZA 9 (.mov 4),ZA 10 (.bin .add 9 (.c (.int 1))),ZA 4 (.mov 10)])))))) (.seq (.reg [ZA 17 (.mov 3),ZA 2 (.mov 17)]) .ret))))⟩
theorem p95:prepF Try.prog 95=some c95:=by kernel_rfl
def c93:F:=⟨12, [(.cell 2 true 8)],(.seq (.reg [ZA 1 (.box 0),ZA 2 (.alloc [(.int 0),(.int 0),(.int 0),(.int 0),(.e (.sl [])),(.e (.sl [])),(.int 0),(.int 0)])]) (.seq (.reg [ZA 3 (.fadr 4 1),ZA 4 (.load false 1 3),ZA 5 (.call 150 [4]),ZA 6 (.fadr 4 1),ZN (.store false 1 6 5)]) (.seq (.reg [ZA 7 (.fadr 5 1),ZA 8 (.load false 1 7),ZA 9 (.call 151 [8]),ZA 10 (.fadr 5 1),ZN (.store false 1 10 9)]) (.seq (.reg [ZA 11 (.load true 8 1),ZN (.store true 8 2 11)]) .ret))))⟩
theorem p93:prepF Try.prog 93=some c93:=by kernel_rfl
def c152:F:=⟨43, [(.tmp 4)],(.seq (.reg [ZA 2 (.box 0),ZA 4 (.mov (.c (.int 0)))]) (.seq (.reg [ZA 5 (.mov (.c (.int 0)))]) (.seq (.seq (.reg [ZA 6 (.mov (.c (.int 0)))]) (.block 0 (.loop (.seq (.seq (.reg [ZA 8 (.mov 6),ZA 9 (.fadr 0 2),ZA 10 (.load false 1 9),ZA 11 (.lenl 10),ZA 12 (.bin .lss 8 11)]) (.cond 12 .skip (.exit 0))) (.seq (.block 1 (.seq (.reg [ZA 15 (.fadr 0 2),ZA 16 (.load false 1 15),ZA 17 (.mov 6),ZA 18 (.iadr none 8 16 17),ZA 19 (.load true 8 18),ZA 7 (.alloc [(.int 0),(.int 0),(.int 0),(.int 0),(.e (.sl [])),(.e (.sl [])),(.int 0),(.int 0)]),ZN (.store true 8 7 19)]) (.seq (.reg [ZA 20 (.fadr 0 7),ZA 21 (.load false 1 20),ZA 22 (.call 130 [21]),ZA 23 (.mov 22),ZT 24 23 (.fadr 6 7),ZT 25 23 (.load false 1 24),ZT 26 23 (.mov 1),ZT 27 23 (.bin .eql 25 26),ZA 28 (.pick 23 27 (.c (.bool false))),ZA 29 (.mov 28),ZF 30 29 (.fadr 0 7),ZF 31 29 (.load false 1 30),ZF 32 29 (.call 131 [31]),ZF 33 29 (.mov 32),ZT 34 33 (.fadr 7 7),ZT 35 33 (.load false 1 34),ZT 36 33 (.mov 1),ZT 37 33 (.bin .eql 35 36),ZF 38 29 (.pick 33 37 (.c (.bool false))),ZA 39 (.pick 29 (.c (.bool true)) 38)]) (.cond 39 (.reg [ZA 40 (.mov 5),ZA 41 (.bin .add 40 (.c (.int 1))),ZA 5 (.mov 41)]) .skip)))) (.reg [ZA 13 (.mov 6),ZA 14 (.bin .add 13 (.c (.int 1))),ZA 6 (.mov 14)])))))) (.seq (.reg [ZA 42 (.mov 5),ZA 4 (.mov 42)]) .ret))))⟩
theorem p152:prepF Try.prog 152=some c152:=by kernel_rfl
def c94:F:=⟨84, [(.tmp 6)],(.seq (.reg [ZA 3 (.box 0),ZA 6 (.mov (.c (.int 0)))]) (.seq (.reg [ZA 9 (.fadr 0 3),ZA 10 (.load false 1 9),ZA 11 (.mov 2),ZA 12 (.iadr none 8 10 11),ZA 13 (.load true 8 12),ZA 7 (.alloc [(.int 0),(.int 0),(.int 0),(.int 0),(.e (.sl [])),(.e (.sl [])),(.int 0),(.int 0)]),ZN (.store true 8 7 13)]) (.seq (.seq (.reg [ZA 14 (.fadr 0 7),ZA 15 (.load false 1 14),ZA 16 (.bin .neq 15 (.c (.int 3))),ZA 17 (.mov 16),ZF 18 17 (.fadr 0 3),ZF 19 17 (.load false 1 18),ZF 20 17 (.fadr 6 7),ZF 21 17 (.load false 1 20),ZF 22 17 (.iadr none 8 19 21),ZF 23 17 (.fadr 0 22),ZF 24 17 (.load false 1 23),ZF 25 17 (.bin .neq 24 (.c (.int 6))),ZA 26 (.pick 17 (.c (.bool true)) 25),ZA 27 (.mov 26),ZF 28 27 (.fadr 6 7),ZF 29 27 (.load false 1 28),ZF 30 27 (.fadr 1 3),ZF 31 27 (.load false 1 30),ZF 32 27 (.bin .eql 29 31),ZA 33 (.pick 27 (.c (.bool true)) 32),ZA 34 (.mov 33),ZF 35 34 (.load true 2 3),ZF 36 34 (.fadr 6 7),ZF 37 34 (.load false 1 36),ZF 38 34 (.call 152 [35,37]),ZF 39 34 (.bin .neq 38 (.c (.int 1))),ZA 40 (.pick 34 (.c (.bool true)) 39)]) (.cond 40 (.seq (.reg [ZA 6 (.mov (.c (.int 0)))]) .ret) .skip)) (.seq (.reg [ZA 41 (.mov 1),ZA 42 (.fadr 6 7),ZA 43 (.load false 1 42),ZA 44 (.iadr none 1 41 43),ZA 45 (.load false 1 44),ZA 46 (.bin .sub 45 (.c (.int 1))),ZA 8 (.mov 46)]) (.seq (.seq (.reg [ZA 47 (.fadr 4 7),ZA 48 (.load false 1 47),ZA 49 (.lenl 48),ZA 50 (.bin .lss 49 (.c (.int 1))),ZA 51 (.mov 50),ZF 52 51 (.fadr 4 7),ZF 53 51 (.load false 1 52),ZF 54 51 (.iadr none 2 53 (.c (.int 0))),ZF 55 51 (.fadr 0 54),ZF 56 51 (.load false 1 55),ZF 57 51 (.bin .neq 56 (.c (.int 3))),ZA 58 (.pick 51 (.c (.bool true)) 57),ZA 59 (.mov 58),ZF 60 59 (.fadr 4 7),ZF 61 59 (.load false 1 60),ZF 62 59 (.iadr none 2 61 (.c (.int 0))),ZF 63 59 (.fadr 1 62),ZF 64 59 (.load false 1 63),ZF 65 59 (.mov 8),ZF 66 59 (.bin .neq 64 65),ZA 67 (.pick 59 (.c (.bool true)) 66)]) (.cond 67 (.seq (.reg [ZA 6 (.mov (.c (.int 0)))]) .ret) .skip)) (.seq (.seq (.reg [ZA 68 (.fadr 4 7),ZA 69 (.load false 1 68),ZA 70 (.lenl 69),ZA 71 (.bin .eql 70 (.c (.int 1)))]) (.cond 71 (.seq (.reg [ZA 6 (.mov (.c (.int 1)))]) .ret) .skip)) (.seq (.seq (.reg [ZA 72 (.fadr 4 7),ZA 73 (.load false 1 72),ZA 74 (.lenl 73),ZA 75 (.bin .eql 74 (.c (.int 2))),ZA 76 (.mov 75),ZT 77 76 (.fadr 4 7),ZT 78 76 (.load false 1 77),ZT 79 76 (.iadr none 2 78 (.c (.int 1))),ZT 80 76 (.fadr 0 79),ZT 81 76 (.load false 1 80),ZT 82 76 (.bin .eql 81 (.c (.int 7))),ZA 83 (.pick 76 82 (.c (.bool false)))]) (.cond 83 (.seq (.reg [ZA 6 (.mov (.c (.int 2)))]) .ret) .skip)) (.seq (.reg [ZA 6 (.mov (.c (.int 0)))]) .ret))))))))⟩
theorem p94:prepF Try.prog 94=some c94:=by kernel_rfl
set_option maxRecDepth 100000 in
theorem ok150 (l:List (Int×Int)) (x:List (List E)) (hx:x=l.map orow) (hlen:x.length<=1048576):Plain Try.prog 150 [.e (.sl x)] (.e (.sl x)):=okOf mixed p150 fun A P hA hP=>(by
  have hal:allLen 2 x:=by rw [hx];exact allLen_iff.2 (fun e h=>by obtain ⟨p,_,rfl⟩:=List.mem_map.1 h;rfl)
  cbv
  repeat' first | with_reducible rfl | with_reducible refine And.intro ?_ ?_ | ((with_reducible intro hcc);first | (cases hcc;done) | skip) | ((with_reducible first | show goC _ _ _ _ _ _ _ _ | show goOps _ _ _ _ _ | show goD _ _ _ _ _ _);cbv) | ((with_reducible show okWr _ _=_);rfl) | ((with_reducible first | refine hA.fin_pl _ _ _ ?_ | refine hA.alt _ _ (Or.inl ?_));cbv) | ((with_reducible first | refine hA.app _ _ _ _ _ ⟨?_,fun zs m hzs hm=>?_⟩ | refine hA.app0 _ _ _ ⟨?_,fun m hm=>?_⟩ | refine hA.appv _ _ _ _ _ _ ⟨?_,fun bb m ds hbb hm hds=>?_⟩ | refine hA.vcut _ _ _ _ ⟨?_,fun cs hcs=>?_⟩ | refine hA.appw _ _ _ _ _ _ _ ⟨?_,fun bb m ds hbb hm hds=>?_⟩);rotate_left;cbv) | (simp only [hA.lits];cbv)
  all_goals try simp only [hA.ar,inR,n_cast,Int.ofNat_eq_natCast,Option.getD_some,Option.getD_none] at *
  all_goals first
    | omega
    | exact hal
    | exact ⟨by omega,hal⟩
    | rfl
    | (trace_state;fail))
set_option maxRecDepth 100000 in
set_option maxHeartbeats 1000000 in
theorem ok151 (l:List (List (Int×Int))) (es:List (List E)) (he:es=l.map orr) (hlen:es.length<=1048576) (hb2: ∀d∈l,d.length<=1048576):Plain Try.prog 151 [.e (.sl es)] (.e (.sl es)):=okOf mixed p151 fun A P hA hP=>(by
  have hl1:es.length=l.length:=by rw [he];simp
  cbv
  repeat' first | with_reducible rfl | with_reducible refine And.intro ?_ ?_ | ((with_reducible intro hcc);first | (cases hcc;done) | skip) | ((with_reducible first | show goC _ _ _ _ _ _ _ _ | show goOps _ _ _ _ _ | show goD _ _ _ _ _ _);cbv) | ((with_reducible show okWr _ _=_);rfl) | ((with_reducible first | refine hA.fin_pl _ _ _ ?_ | refine hA.len _ _ _ _ _ fun z hz hb=>?_ | refine hA.off _ _ _ _ fun b hb=>?_ | refine hA.alt _ _ (Or.inl ?_));cbv) | ((with_reducible first | refine hA.app _ _ _ _ _ ⟨?_,fun zs m hzs hm=>?_⟩ | refine hA.app0 _ _ _ ⟨?_,fun m hm=>?_⟩ | refine hA.appv _ _ _ _ _ _ ⟨?_,fun bb m ds hbb hm hds=>?_⟩ | refine hA.vcut _ _ _ _ ⟨?_,fun cs hcs=>?_⟩ | refine hA.appw _ _ _ _ _ _ _ ⟨?_,fun bb m ds hbb hm hds=>?_⟩ | refine hA.sapp _ _ _ ⟨?_,fun sl hsl=>?_⟩);rotate_left;cbv) | (simp only [hA.lits];cbv)
  all_goals try simp only [hA.ar,inR,n_cast,Int.ofNat_eq_natCast,Option.getD_some,Option.getD_none] at *
  refine hA.loopI (fun n s=> ∃(i:Int) (xs:List (List E)),0<=i/\n+i=es.length/\xs=es.take i.toNat/\
      s=⟨[(4,.int i),(3,.own 0 xs),(0,.e (.sl es))], [.front xs.length 1]⟩) es.length _
    ((Weak.zown 3 1 rfl).trans (Weak.keep (env':= [(4,.int 0),(3,.own 0 []),(0,.e (.sl es))]) ⟨rfl,rfl,rfl,trivial⟩))
    ⟨0, [],by omega,by omega,rfl,rfl⟩ ?_
  rintro n s K ⟨i,xs,h0,h1,h2,rfl⟩ hK
  obtain ⟨k,hk⟩: ∃k,k=xs.length:=⟨_,rfl⟩
  have hxl:xs.length=i.toNat:=by rw [h2,List.length_take];omega
  rw [<-hk]
  by_cases hin:(0:Int)<=i/\i<es.length
  · obtain ⟨r1,e1,q1⟩:=row_at he hin
    obtain ⟨x1,hx1⟩: ∃x,x=r1.map orow:=⟨_,rfl⟩
    have e1:es.getD i.toNat []= [E.sl x1]:=e1.trans (by rw [hx1])
    have h296:=ok150 r1 x1 hx1 (by rw [hx1,List.length_map];exact hb2 r1 (List.mem_of_getElem? q1))
    have hrow:es.take (i+1).toNat=xs++ [[E.sl x1]]:=by
      rw [show (i+1).toNat=i.toNat+1 by omega,List.take_add_one,<-h2,he,List.getElem?_map,q1,hx1]
      rfl
    clear he
    cbv
    repeat' first | with_reducible rfl | with_reducible refine And.intro ?_ ?_ | ((with_reducible intro hcc);first | (cases hcc;done) | skip) | ((with_reducible first | show goC _ _ _ _ _ _ _ _ | show goOps _ _ _ _ _ | show goD _ _ _ _ _ _);cbv) | ((with_reducible show okWr _ _=_);rfl) | ((with_reducible first | refine callK_f hA hP h296 ?_ ?_ ?_);exact rfl;exact rfl;cbv) | ((with_reducible refine hA.row es _ _ ⟨hin,fun row hrow=>?_⟩);rw [e1] at hrow;subst hrow;cbv) | ((with_reducible first | refine hA.fin_pl _ _ _ ?_ | refine hA.len _ _ _ _ _ fun z hz hb=>?_ | refine hA.off _ _ _ _ fun b hb=>?_ | refine hA.alt _ _ (Or.inl ?_));cbv) | ((with_reducible first | refine hA.app _ _ _ _ _ ⟨?_,fun zs m hzs hm=>?_⟩ | refine hA.app0 _ _ _ ⟨?_,fun m hm=>?_⟩ | refine hA.appv _ _ _ _ _ _ ⟨?_,fun bb m ds hbb hm hds=>?_⟩ | refine hA.vcut _ _ _ _ ⟨?_,fun cs hcs=>?_⟩ | refine hA.appw _ _ _ _ _ _ _ ⟨?_,fun bb m ds hbb hm hds=>?_⟩ | refine hA.sapp _ _ _ ⟨?_,fun sl hsl=>?_⟩);rotate_left;cbv) | (simp only [hA.lits];cbv)
    all_goals try simp only [hA.ar,inR,n_cast,Int.ofNat_eq_natCast,Option.getD_some,Option.getD_none] at *
    all_goals first
      | omega
      | (rw [hk];done)
      | exact ⟨rfl,trivial⟩
      | (simp only [List.length_cons,List.length_nil];omega)
      | (have hz2:zs=es.take (i+1).toNat:=by rw [hzs,hrow]
         refine hK _ (n-1) _ (by omega) (Weak.ren (l0:= []) [0] (fun t=> [(4,.int (i+1)),(3,.own (t 0) zs),(0,.e (.sl es))]) (fun _=> [.front zs.length 1]) rfl
               ⟨.inl rfl,.inl rfl,.inl rfl,trivial⟩ ⟨by rw [<-hm];rfl,trivial⟩ ⟨fun t=>rfl,rfl,fun t=>rfl,by intro o ho;rw [List.mem_singleton] at ho;subst ho;rfl⟩)
             ⟨i+1,zs,by omega,by omega,hz2,rfl⟩)
      | (clear hK;simp at *;omega)
      | (trace_state;fail)
  · have hxe:xs=es:=by rw [h2];exact List.take_of_length_le (by omega)
    clear hK h2
    cbv
    repeat' first | with_reducible rfl | with_reducible refine And.intro ?_ ?_ | ((with_reducible intro hcc);first | (cases hcc;done) | skip) | ((with_reducible first | show goC _ _ _ _ _ _ _ _ | show goOps _ _ _ _ _ | show goD _ _ _ _ _ _);cbv) | ((with_reducible show okWr _ _=_);rfl) | (exfalso;simp only [hA.lt,hA.sub,decide_eq_true_eq,decide_eq_false_iff_not,n_cast] at *;omega) | ((with_reducible first | refine hA.fin_pl _ _ _ ?_ | refine hA.len _ _ _ _ _ fun z hz hb=>?_ | refine hA.off _ _ _ _ fun b hb=>?_ | refine hA.alt _ _ (Or.inl ?_));cbv) | ((with_reducible first | refine hA.app _ _ _ _ _ ⟨?_,fun zs m hzs hm=>?_⟩ | refine hA.app0 _ _ _ ⟨?_,fun m hm=>?_⟩ | refine hA.appv _ _ _ _ _ _ ⟨?_,fun bb m ds hbb hm hds=>?_⟩ | refine hA.vcut _ _ _ _ ⟨?_,fun cs hcs=>?_⟩ | refine hA.appw _ _ _ _ _ _ _ ⟨?_,fun bb m ds hbb hm hds=>?_⟩ | refine hA.sapp _ _ _ ⟨?_,fun sl hsl=>?_⟩);rotate_left;cbv) | (simp only [hA.lits];cbv)
    all_goals try simp only [hA.ar,inR,n_cast,Int.ofNat_eq_natCast,Option.getD_some,Option.getD_none] at *
    all_goals first
      | (rw [hxe])
      | omega
      | (trace_state;fail))
theorem colsE_len (w:Int):(colsE w).length=w.toNat:=by simp [colsE]
theorem colsE_get (w:Int) (i:Nat) (h:i<w.toNat):(colsE w)[i]?=some (colE i):=by
  rw [colsE,List.getElem?_map,List.getElem?_range h]
  rfl
theorem own_side {az:List E} {es:List (List E)} {n k:Nat} :Side (fun _=>az.map .e) (fun _=> []) (fun t=> .own (t 0) es) (fun _=> [.front n k]):=
  ⟨fun t=>by rw [rens_e],lts_e _ _,fun t=>rfl,(by intro o ho;cases ho),fun t=>rfl,fun t=>rfl,Nat.zero_le _⟩
theorem own_fin {A:Ar} (hA:A.Ok) {es:List (List E)} {m k j:Nat} {l':List O} (h0:hpF l' j= .front m k) (hm:m=es.length):A.finv [] l' (.own j es) [.front m k] (.own 0 es):=by
  subst hm
  exact hA.finv _ _ _ _ _ (FinV.ren [j] (fun _=> [.front es.length k]) (fun t=> .own (t 0) es) rfl (.inl rfl) ⟨h0,trivial⟩ (fun t=>rfl) rfl (fun t=>rfl) (by intro o ho;rw [List.mem_singleton] at ho;subst ho;rfl))
set_option maxRecDepth 100000 in
set_option maxHeartbeats 1000000 in
theorem ok95 (w:Int) (hw:w<=1000) (es:List (List E)) (he:es=(colsE w).map orr):Proc Try.prog 95 (fun _=> [.int w]) (fun _=> []) (fun t=> .own (t 0) es) (fun _=> [.front es.length 1]):=procOf mixed p95 (own_side (az:= [E.int w])) fun A P hA hP=>(by
  have hl1:es.length=w.toNat:=by rw [he,List.length_map,colsE_len]
  obtain ⟨ne,hne⟩: ∃n,n=es.length:=⟨_,rfl⟩
  rw [<-hne]
  cbv
  repeat' first | with_reducible rfl | with_reducible refine And.intro ?_ ?_ | ((with_reducible intro hcc);first | (cases hcc;done) | skip) | ((with_reducible first | show goC _ _ _ _ _ _ _ _ | show goOps _ _ _ _ _ | show goD _ _ _ _ _ _);cbv) | ((with_reducible show okWr _ _=_);rfl) | ((with_reducible first | refine hA.fin_pl _ _ _ ?_ | refine hA.alt _ _ (Or.inl ?_));cbv) | ((with_reducible first | refine hA.app _ _ _ _ _ ⟨?_,fun zs m hzs hm=>?_⟩ | refine hA.app0 _ _ _ ⟨?_,fun m hm=>?_⟩ | refine hA.appv _ _ _ _ _ _ ⟨?_,fun bb m ds hbb hm hds=>?_⟩ | refine hA.vcut _ _ _ _ ⟨?_,fun cs hcs=>?_⟩ | refine hA.appw _ _ _ _ _ _ _ ⟨?_,fun bb m ds hbb hm hds=>?_⟩ | refine hA.sapp _ _ _ ⟨?_,fun sl hsl=>?_⟩);rotate_left;cbv) | (simp only [hA.lits];cbv)
  all_goals try simp only [hA.ar,inR,n_cast,Int.ofNat_eq_natCast,Option.getD_some,Option.getD_none] at *
  refine hA.loopI (fun n s=> ∃(i:Int) (xs:List (List E)),0<=i/\i<=w.toNat/\n+i=w.toNat/\xs=es.take i.toNat/\
      s=⟨[(4,.int i),(3,.own 0 xs),(0,.int w)], [.front xs.length 1]⟩) w.toNat _
    ((Weak.zown 3 1 rfl).trans (Weak.keep (env':= [(4,.int 0),(3,.own 0 []),(0,.int w)]) ⟨rfl,rfl,rfl,trivial⟩))
    ⟨0, [],by omega,by omega,by omega,rfl,rfl⟩ ?_
  rintro n s K ⟨i,xs,h0,h9,h1,h2,rfl⟩ hK
  obtain ⟨k,hk⟩: ∃k,k=xs.length:=⟨_,rfl⟩
  have hxl:xs.length=i.toNat:=by rw [h2,List.length_take];omega
  rw [<-hk]
  by_cases hin:i<w
  · have e1:A.lt i w=true:=by rw [hA.lt];exact decide_eq_true hin
    have hrow:es.take (i+1).toNat=xs++ [[E.sl [[E.int 3,E.int i]]]]:=by
      rw [show (i+1).toNat=i.toNat+1 by omega,List.take_add_one,<-h2,he,List.getElem?_map,colsE_get _ _ (by omega)]
      simp only [Option.map_some,colE,List.map_cons,List.map_nil,show ((i.toNat:Nat):Int)=i by omega]
      rfl
    clear he
    cbv
    repeat' first | with_reducible rfl | (simp only [e1];cbv) | with_reducible refine And.intro ?_ ?_ | ((with_reducible intro hcc);first | (cases hcc;done) | skip) | ((with_reducible first | show goC _ _ _ _ _ _ _ _ | show goOps _ _ _ _ _ | show goD _ _ _ _ _ _);cbv) | ((with_reducible show okWr _ _=_);rfl) | ((with_reducible first | refine hA.fin_pl _ _ _ ?_ | refine hA.alt _ _ (Or.inl ?_));cbv) | ((with_reducible first | refine hA.app _ _ _ _ _ ⟨?_,fun zs m hzs hm=>?_⟩ | refine hA.app0 _ _ _ ⟨?_,fun m hm=>?_⟩ | refine hA.appv _ _ _ _ _ _ ⟨?_,fun bb m ds hbb hm hds=>?_⟩ | refine hA.vcut _ _ _ _ ⟨?_,fun cs hcs=>?_⟩ | refine hA.appw _ _ _ _ _ _ _ ⟨?_,fun bb m ds hbb hm hds=>?_⟩ | refine hA.sapp _ _ _ ⟨?_,fun sl hsl=>?_⟩);rotate_left;cbv) | (simp only [hA.lits];cbv)
    all_goals try simp only [hA.ar,inR,n_cast,Int.ofNat_eq_natCast,Option.getD_some,Option.getD_none] at *
    all_goals first
      | omega
      | (rw [hk];done)
      | exact ⟨rfl,trivial⟩
      | (simp only [List.length_cons,List.length_nil];omega)
      | (have hz2:zs=es.take (i+1).toNat:=by rw [hzs,hrow]
         refine hK _ (n-1) _ (by omega) (Weak.ren (l0:= []) [0] (fun t=> [(4,.int (i+1)),(3,.own (t 0) zs),(0,.int w)]) (fun _=> [.front zs.length 1]) rfl
               ⟨.inl rfl,.inl rfl,.inl rfl,trivial⟩ ⟨by rw [<-hm];rfl,trivial⟩ ⟨fun t=>rfl,rfl,fun t=>rfl,by intro o ho;rw [List.mem_singleton] at ho;subst ho;rfl⟩)
             ⟨i+1,zs,by omega,by omega,by omega,hz2,rfl⟩)
      | (clear hK;simp at *;omega)
      | (trace_state;fail)
  · have hxe:xs=es:=by rw [h2];exact List.take_of_length_le (by omega)
    have e1:A.lt i w=false:=by rw [hA.lt];exact decide_eq_false hin
    clear hK h2
    subst hxe
    have hkn:k=ne:=by omega
    subst hkn
    cbv
    repeat' first | with_reducible rfl | (simp only [e1];cbv) | with_reducible refine And.intro ?_ ?_ | ((with_reducible intro hcc);first | (cases hcc;done) | skip) | ((with_reducible first | show goC _ _ _ _ _ _ _ _ | show goOps _ _ _ _ _ | show goD _ _ _ _ _ _);cbv) | ((with_reducible show okWr _ _=_);rfl) | ((with_reducible first | refine hA.fin_pl _ _ _ ?_ | refine hA.alt _ _ (Or.inl ?_));cbv) | ((with_reducible first | refine hA.app _ _ _ _ _ ⟨?_,fun zs m hzs hm=>?_⟩ | refine hA.app0 _ _ _ ⟨?_,fun m hm=>?_⟩ | refine hA.appv _ _ _ _ _ _ ⟨?_,fun bb m ds hbb hm hds=>?_⟩ | refine hA.vcut _ _ _ _ ⟨?_,fun cs hcs=>?_⟩ | refine hA.appw _ _ _ _ _ _ _ ⟨?_,fun bb m ds hbb hm hds=>?_⟩ | refine hA.sapp _ _ _ ⟨?_,fun sl hsl=>?_⟩);rotate_left;cbv) | (simp only [hA.lits];cbv)
    all_goals try simp only [hA.ar,inR,n_cast,Int.ofNat_eq_natCast,Option.getD_some,Option.getD_none] at *
    all_goals first
      | exact own_fin hA rfl hk
      | omega
      | (trace_state;fail))
set_option maxRecDepth 100000 in
theorem ok93 (d:Fd) (x y:List (List E)) (hx:x=d.Ex.map orow) (hy:y=d.Exs.map orr) (h1:d.Ex.length<=1048576) (h2:d.Exs.length<=1048576) (h3: ∀e∈d.Exs,e.length<=1048576):
    Plain Try.prog 93 [.agg [.int d.K,.int d.T,.int d.M,.int d.W,.e (.sl x),.e (.sl y),.int d.L,.int d.R]] (.agg [.int d.K,.int d.T,.int d.M,.int d.W,.e (.sl x),.e (.sl y),.int d.L,.int d.R]):=okOf mixed p93 fun A P hA hP=>(by
  obtain ⟨K1,T1,M1,W1,Ex1,Exs1,L1,R1⟩:=d
  have h296:=ok150 Ex1 x hx (by rw [hx,List.length_map];exact h1)
  have h297:=ok151 Exs1 y hy (by rw [hy,List.length_map];exact h2) h3
  cbv
  repeat' first | with_reducible rfl | with_reducible refine And.intro ?_ ?_ | ((with_reducible intro hcc);first | (cases hcc;done) | skip) | ((with_reducible first | show goC _ _ _ _ _ _ _ _ | show goOps _ _ _ _ _ | show goD _ _ _ _ _ _);cbv) | ((with_reducible show okWr _ _=_);rfl) | ((with_reducible first | refine callK_f hA hP h296 ?_ ?_ ?_ | refine callK_f hA hP h297 ?_ ?_ ?_);exact rfl;exact rfl;cbv) | ((with_reducible first | refine hA.fin_pl _ _ _ ?_);cbv) | ((with_reducible first | refine hA.st _ _ _ _ _ ⟨?_,fun ds hds=>?_⟩);rotate_left;cbv) | (simp only [hA.lits];cbv)
  all_goals try simp only [hA.ar,inR,n_cast,Int.ofNat_eq_natCast,Option.getD_some,Option.getD_none] at *
  )
end Go.Proofs.Ytfplalbognalkaa.Ab
/- The specification's simplified plans: who uses a node, and what it asks. -/
namespace Go.Proofs.Ytfplalbognalkaa.Ab
open Go
theorem usrs_take {i:Int} {ns:List Fd} {j:Nat} {d:Fd} (h:ns[j]?=some d):usrs i (ns.take (j+1))=usrs i (ns.take j)+cuS i d:=by
  rw [List.take_add_one,h,usrs_app]
  simp [usrs]
theorem box_side {env:RF->List (Nat×D)} {x:List (List E)} {rt:Int} (h1: ∀t,env t=renEnv t (env id)) (h2:ltEnv 1 (env id)=true):SideW env (fun _=> [.box [.e (.sl x),.int rt]]):=
  ⟨h1,h2,fun t=>rfl,by intro o ho;rw [List.mem_singleton] at ho;subst ho;rfl⟩
theorem usrs_le (i:Int): ∀l:List Fd,usrs i l<=l.length
  | []=>by simp [usrs]
  | d::l=>by
    have:=usrs_le i l
    have h:cuS i d<=1:=by unfold cuS;split <;>omega
    simp only [usrs,List.length_cons]
    omega
set_option maxRecDepth 100000 in
set_option maxHeartbeats 4000000 in
theorem ok152 (ns:List Fd) (rt:Int) (x:List (List E)) (hx:x=ns.map fdr) (hxl:x.length<=1048576) (i:Int):Plain Try.prog 152 [.agg [.e (.sl x),.int rt],.int i] (.int (usrs i ns)):=okOf mixed p152 fun A P hA hP=>(by
  have hel:x.length=ns.length:=by rw [hx];simp
  obtain ⟨ze,hze⟩: ∃z:Int,z=x.length:=⟨_,rfl⟩
  obtain ⟨ur,hur⟩: ∃u,u=usrs i ns:=⟨_,rfl⟩
  rw [<-hur]
  cbv
  repeat' first | with_reducible rfl | with_reducible refine And.intro ?_ ?_ | ((with_reducible intro hcc);first | (cases hcc;done) | skip) | ((with_reducible first | show goC _ _ _ _ _ _ _ _ | show goOps _ _ _ _ _ | show goD _ _ _ _ _ _);cbv) | ((with_reducible show okWr _ _=_);rfl) | ((with_reducible first | refine hA.fin_pl _ _ _ ?_ | refine hA.len _ _ _ _ _ fun z hz hb=>?_ | refine hA.off _ _ _ _ fun b hb=>?_ | refine hA.plus _ _ _ fun b hb=>?_ | refine hA.alt _ _ (Or.inl ?_) | refine hA.gb0 true _ ?_ | refine hA.gb0 false _ ?_ | refine hA.gb _ _ fun vb hvb=>?_);cbv) | ((with_reducible first | refine hA.st _ _ _ _ _ ⟨?_,fun ds hds=>?_⟩ | refine hA.sapp _ _ _ ⟨?_,fun sl hsl=>?_⟩);rotate_left;cbv) | (simp only [hA.lits];cbv)
  all_goals try simp only [hA.ar,inR,n_cast,Int.ofNat_eq_natCast,Option.getD_some,Option.getD_none] at *
  refine hA.loopI (fun m s=> ∃(j c:Int),0<=j/\m+j=x.length/\c=usrs i (ns.take j.toNat)/\s=⟨[(6,.int j),(5,.int c),(2,.ref 0 0),(1,.int i)], [.box [.e (.sl x),.int rt]]⟩) x.length _
    (Weak.keep (env':= [(6,.int 0),(5,.int 0),(2,.ref 0 0),(1,.int i)]) ⟨rfl,rfl,rfl,rfl,trivial⟩) ⟨0,0,by omega,by omega,by simp [usrs],rfl⟩ ?_
  rintro m s K' ⟨j,c,h0,h1,hc,rfl⟩ hK
  by_cases hin:(0:Int)<=j/\j<x.length
  · have e1:A.lt j ze=true:=by rw [hA.lt];exact decide_eq_true (by omega)
    obtain ⟨K,T,M,W,Ex,Exs,L,R,xe,ye,hd,hxe,hye,hrow0⟩:=fd_at hx hin
    have hut:=usrs_take (i:=i) hd
    have hcl:c<=1048576:=by
      have:=usrs_le i (ns.take j.toNat)
      rw [List.length_take] at this
      omega
    have hc0:0<=c:=by rw [hc];exact (uses_usrs i _).1
    obtain ⟨a1,ha1⟩: ∃b,b=one K:=⟨_,rfl⟩
    obtain ⟨b1,hb1⟩: ∃b,b=two K:=⟨_,rfl⟩
    obtain ⟨a2,ha2⟩: ∃b,b=A.eq L i:=⟨_,rfl⟩
    obtain ⟨b2,hb2⟩: ∃b,b=A.eq R i:=⟨_,rfl⟩
    have hcu:cuS i ⟨K,T,M,W,Ex,Exs,L,R⟩=if (a1&&a2) || (b1&&b2) then 1 else 0:=by
      rw [ha2,hb2,hA.eq,hA.eq]
      unfold cuS
      rw [ha1,hb1]
      by_cases q1:one K=true <;>by_cases q2:L=i <;>by_cases q3:two K=true <;>by_cases q4:R=i <;>simp [q1,q2,q3,q4]
    have h280:=ok130 K
    have h281:=ok131 K
    rw [<-ha1] at h280
    rw [<-hb1] at h281
    have go: ∀(c':Int) (env:List (Nat×D)) (hp:List O),c'=c+cuS i ⟨K,T,M,W,Ex,Exs,L,R⟩->hpF hp 0= .box [.e (.sl x),.int rt]->subW [(6,.int (j+1)),(5,.int c'),(2,.ref 0 0),(1,.int i)] env->K' ⟨env,hp⟩:=fun c' env hp q1 q2 q3=>
      hK _ (m-1) _ (by omega) (Weak.ren (l0:= []) [0] (fun t=> [(6,.int (j+1)),(5,.int c'),(2,.ref (t 0) 0),(1,.int i)]) (fun _=> [.box [.e (.sl x),.int rt]]) rfl q3 ⟨by rw [q2],trivial⟩ (box_side (fun t=>rfl) rfl))
        ⟨j+1,c',by omega,by omega,by rw [q1,hc,show (j+1).toNat=j.toNat+1 by omega,hut],rfl⟩
    clear hK hc hut hur hd hx ha1 hb1 hxe hye
    cases a1 <;>cases a2 <;>cases b1 <;>cases b2
    all_goals
      simp only [Bool.and_true,Bool.and_false,Bool.or_true,Bool.or_false,Bool.false_or,Bool.true_or,if_true,Bool.false_eq_true,if_false,Bool.and_self,Bool.or_self] at hcu
      cbv
      repeat' first | with_reducible rfl | (simp only [e1,<-ha2,<-hb2];cbv) | with_reducible refine And.intro ?_ ?_ | ((with_reducible intro hcc);first | (cases hcc;done) | skip) | ((with_reducible first | show goC _ _ _ _ _ _ _ _ | show goOps _ _ _ _ _ | show goD _ _ _ _ _ _);cbv) | ((with_reducible show okWr _ _=_);rfl) | ((with_reducible first | refine callK_f hA hP h280 ?_ ?_ ?_ | refine callK_f hA hP h281 ?_ ?_ ?_);exact rfl;exact rfl;cbv) | ((with_reducible refine hA.len x _ _ _ _ fun z hz hb=>?_);(have e6:=hze.trans hz.symm);subst e6;cbv) | ((with_reducible refine hA.row x j _ ⟨hin,fun row hrow=>?_⟩);rw [hrow0] at hrow;subst hrow;cbv) | ((with_reducible show A.call _ _ _ _ false _ _ _ _);refine callK_no hA (.bool false) ?_;cbv) | ((with_reducible first | refine hA.fin_pl _ _ _ ?_ | refine hA.len _ _ _ _ _ fun z hz hb=>?_ | refine hA.off _ _ _ _ fun b hb=>?_ | refine hA.plus _ _ _ fun b hb=>?_ | refine hA.alt _ _ (Or.inl ?_) | refine hA.gb0 true _ ?_ | refine hA.gb0 false _ ?_ | refine hA.gb _ _ fun vb hvb=>?_);cbv) | ((with_reducible first | refine hA.st _ _ _ _ _ ⟨?_,fun ds hds=>?_⟩ | refine hA.sapp _ _ _ ⟨?_,fun sl hsl=>?_⟩);rotate_left;cbv) | (simp only [hA.lits];cbv)
      all_goals try simp only [hA.ar,inR,n_cast,Int.ofNat_eq_natCast,Option.getD_some,Option.getD_none] at *
    all_goals first
      | omega
      | exact go _ _ _ (by omega) rfl ⟨.inl rfl,.inl rfl,.inl rfl,.inl rfl,trivial⟩
      | (have:=hb trivial trivial trivial;omega)
      | (trace_state;fail)
  · have e1:A.lt j ze=false:=by rw [hA.lt];exact decide_eq_false (by omega)
    have hcc:c=ur:=by rw [hc,hur,List.take_of_length_le (by omega)]
    subst hcc
    clear hK hc hur
    cbv
    repeat' first | with_reducible rfl | (simp only [e1];cbv) | with_reducible refine And.intro ?_ ?_ | ((with_reducible intro hcc);first | (cases hcc;done) | skip) | ((with_reducible first | show goC _ _ _ _ _ _ _ _ | show goOps _ _ _ _ _ | show goD _ _ _ _ _ _);cbv) | ((with_reducible show okWr _ _=_);rfl) | ((with_reducible refine hA.len x _ _ _ _ fun z hz hb=>?_);(have e6:=hze.trans hz.symm);subst e6;cbv) | ((with_reducible first | refine hA.fin_pl _ _ _ ?_ | refine hA.len _ _ _ _ _ fun z hz hb=>?_ | refine hA.off _ _ _ _ fun b hb=>?_ | refine hA.plus _ _ _ fun b hb=>?_ | refine hA.alt _ _ (Or.inl ?_) | refine hA.gb0 true _ ?_ | refine hA.gb0 false _ ?_ | refine hA.gb _ _ fun vb hvb=>?_);cbv) | ((with_reducible first | refine hA.st _ _ _ _ _ ⟨?_,fun ds hds=>?_⟩ | refine hA.sapp _ _ _ ⟨?_,fun sl hsl=>?_⟩);rotate_left;cbv) | (simp only [hA.lits];cbv)
    all_goals try simp only [hA.ar,inR,n_cast,Int.ofNat_eq_natCast,Option.getD_some,Option.getD_none] at *
    all_goals first
      | omega
      | (trace_state;fail))
end Go.Proofs.Ytfplalbognalkaa.Ab
/- The specification's simplified plans: what a node asks. -/
namespace Go.Proofs.Ytfplalbognalkaa.Ab
open Go
theorem node_row {ns:List Fd} {x:List (List E)} (hx:x=ns.map fdr) {L:Int} (h:0<=L/\L<x.length):ns[L.toNat]?=some (nodeAt ns L)/\x.getD L.toNat []=fdr (nodeAt ns L):=by
  subst hx
  have hn:L.toNat<ns.length:=by simp at h;omega
  unfold nodeAt
  exact ⟨by simp [List.getD,hn],by simp [List.getD,hn]⟩
theorem ir_row {ws:List Int} {x:List (List E)} (hx:x=ws.map ir) {L:Int} (h:0<=L/\L<x.length):x.getD L.toNat []= [E.int (ws.getD L.toNat 0)]:=by
  subst hx
  have hn:L.toNat<ws.length:=by simp at h;omega
  simp [List.getD,hn]
set_option maxRecDepth 100000 in
set_option maxHeartbeats 4000000 in
theorem ok94 (ns:List Fd) (rt:Int) (x:List (List E)) (hx:x=ns.map fdr) (hxl:x.length<=1048576) (hlen: ∀d∈ns,d.Ex.length<=1048576) (ws:List Int) (xw:List (List E)) (hxw:xw=ws.map ir) (hwl:ws.length=ns.length) (hw: ∀w∈ws,0<=w/\w<=200)
    (j:Int) (hin:(0:Int)<=j/\j<x.length) (d:Fd) (hd:ns[j.toNat]?=some d) (hv:0<=d.L/\d.L<x.length):
    Plain Try.prog 94 [.agg [.e (.sl x),.int rt],.e (.sl xw),.int j] (.int (askS ns (fun i=>ws.getD i.toNat 0) rt d)):=okOf mixed p94 fun A P hA hP=>(by
  obtain ⟨r,hr⟩: ∃r,r=askS ns (fun i=>ws.getD i.toNat 0) rt d:=⟨_,rfl⟩
  rw [<-hr]
  obtain ⟨K,T,M,W,Ex,Exs,L,R,xe,ye,hd2,hxe,hye,hrow0⟩:=fd_at hx hin
  rw [hd] at hd2
  cases hd2
  have hexl:=hlen _ (List.mem_of_getElem? hd)
  simp only at hv hexl
  by_cases c1:K=3
  case neg=>
    have e1:A.eq K 3=false:=by rw [hA.eq];exact decide_eq_false c1
    have hr0:r=0:=by rw [hr,askS,if_pos (.inl c1)]
    subst hr0
    clear hr hx hxw hlen hv hw
    cbv
    repeat' first | with_reducible rfl | (simp only [e1];cbv) | with_reducible refine And.intro ?_ ?_ | ((with_reducible intro hcc);first | (cases hcc;done) | skip) | ((with_reducible first | show goC _ _ _ _ _ _ _ _ | show goOps _ _ _ _ _ | show goD _ _ _ _ _ _);cbv) | ((with_reducible show okWr _ _=_);rfl) | ((with_reducible refine hA.row x j _ ⟨hin,fun row hrow=>?_⟩);rw [hrow0] at hrow;subst hrow;cbv) | ((with_reducible refine hA.alt _ _ (Or.inr ⟨?_,.bool false,?_⟩));(first | rfl | trivial);cbv) | ((with_reducible refine hA.row0 x _ _ fun p row=>?_);cbv) | ((with_reducible show A.call _ _ _ _ false _ _ _ _);refine callK_no hA (.int 0) ?_;cbv) | ((with_reducible first | refine hA.fin_pl _ _ _ ?_ | refine hA.len _ _ _ _ _ fun z hz hb=>?_ | refine hA.off _ _ _ _ fun b hb=>?_ | refine hA.plus _ _ _ fun b hb=>?_ | refine hA.alt _ _ (Or.inl ?_) | refine hA.gb0 true _ ?_ | refine hA.gb0 false _ ?_ | refine hA.gb _ _ fun vb hvb=>?_);cbv) | ((with_reducible first | refine hA.st _ _ _ _ _ ⟨?_,fun ds hds=>?_⟩);rotate_left;cbv) | (simp only [hA.lits];cbv)
    all_goals try simp only [hA.ar,inR,n_cast,Int.ofNat_eq_natCast,Option.getD_some,Option.getD_none] at *
    all_goals first
      | omega
      | rfl
      | (trace_state;fail)
  have e1:A.eq K 3=true:=by rw [hA.eq];exact decide_eq_true c1
  have hinL:=hv
  obtain ⟨dL,hdL⟩: ∃d,d=nodeAt ns L:=⟨_,rfl⟩
  have hrowL:=(node_row hx hinL).2
  rw [<-hdL] at hrowL
  obtain ⟨K2,T2,M2,W2,Ex2,Exs2,L2,R2⟩:=dL
  obtain ⟨xe2,hxe2⟩: ∃x,x=Ex2.map orow:=⟨_,rfl⟩
  obtain ⟨ye2,hye2⟩: ∃x,x=Exs2.map orr:=⟨_,rfl⟩
  have hrowL:x.getD L.toNat []= [E.int K2,E.int T2,E.int M2,E.int W2,E.sl xe2,E.sl ye2,E.int L2,E.int R2]:=by rw [hrowL,hxe2,hye2]
  have hK2:(nodeAt ns L).K=K2:=by rw [<-hdL]
  by_cases c2:K2=6
  case neg=>
    have e2:A.eq K2 6=false:=by rw [hA.eq];exact decide_eq_false c2
    have hr0:r=0:=by rw [hr,askS,if_pos (.inr (.inl (by rw [hK2];exact c2)))]
    subst hr0
    clear hr hx hxw hlen hv hw hdL hxe2 hye2 hK2
    cbv
    repeat' first | with_reducible rfl | (simp only [e1,e2];cbv) | with_reducible refine And.intro ?_ ?_ | ((with_reducible intro hcc);first | (cases hcc;done) | skip) | ((with_reducible first | show goC _ _ _ _ _ _ _ _ | show goOps _ _ _ _ _ | show goD _ _ _ _ _ _);cbv) | ((with_reducible show okWr _ _=_);rfl) | ((with_reducible refine hA.row x j _ ⟨hin,fun row hrow=>?_⟩);rw [hrow0] at hrow;subst hrow;cbv) | ((with_reducible refine hA.row x L _ ⟨hinL,fun row hrow=>?_⟩);rw [hrowL] at hrow;subst hrow;cbv) | ((with_reducible show A.call _ _ _ _ false _ _ _ _);refine callK_no hA (.int 0) ?_;cbv) | ((with_reducible first | refine hA.fin_pl _ _ _ ?_ | refine hA.len _ _ _ _ _ fun z hz hb=>?_ | refine hA.off _ _ _ _ fun b hb=>?_ | refine hA.plus _ _ _ fun b hb=>?_ | refine hA.alt _ _ (Or.inl ?_) | refine hA.gb0 true _ ?_ | refine hA.gb0 false _ ?_ | refine hA.gb _ _ fun vb hvb=>?_);cbv) | ((with_reducible first | refine hA.st _ _ _ _ _ ⟨?_,fun ds hds=>?_⟩);rotate_left;cbv) | (simp only [hA.lits];cbv)
    all_goals try simp only [hA.ar,inR,n_cast,Int.ofNat_eq_natCast,Option.getD_some,Option.getD_none] at *
    all_goals first
      | omega
      | rfl
      | (trace_state;fail)
  have e2:A.eq K2 6=true:=by rw [hA.eq];exact decide_eq_true c2
  by_cases c3:L=rt
  · have e3:A.eq L rt=true:=by rw [hA.eq];exact decide_eq_true c3
    have hr0:r=0:=by rw [hr,askS,if_pos (.inr (.inr (.inl c3)))]
    subst hr0
    clear hr hx hxw hlen hv hw hdL hxe2 hye2 hK2
    cbv
    repeat' first | with_reducible rfl | (simp only [e1,e2,e3];cbv) | with_reducible refine And.intro ?_ ?_ | ((with_reducible intro hcc);first | (cases hcc;done) | skip) | ((with_reducible first | show goC _ _ _ _ _ _ _ _ | show goOps _ _ _ _ _ | show goD _ _ _ _ _ _);cbv) | ((with_reducible show okWr _ _=_);rfl) | ((with_reducible refine hA.row x j _ ⟨hin,fun row hrow=>?_⟩);rw [hrow0] at hrow;subst hrow;cbv) | ((with_reducible refine hA.row x L _ ⟨hinL,fun row hrow=>?_⟩);rw [hrowL] at hrow;subst hrow;cbv) | ((with_reducible show A.call _ _ _ _ false _ _ _ _);refine callK_no hA (.int 0) ?_;cbv) | ((with_reducible first | refine hA.fin_pl _ _ _ ?_ | refine hA.len _ _ _ _ _ fun z hz hb=>?_ | refine hA.off _ _ _ _ fun b hb=>?_ | refine hA.plus _ _ _ fun b hb=>?_ | refine hA.alt _ _ (Or.inl ?_) | refine hA.gb0 true _ ?_ | refine hA.gb0 false _ ?_ | refine hA.gb _ _ fun vb hvb=>?_);cbv) | ((with_reducible first | refine hA.st _ _ _ _ _ ⟨?_,fun ds hds=>?_⟩);rotate_left;cbv) | (simp only [hA.lits];cbv)
    all_goals try simp only [hA.ar,inR,n_cast,Int.ofNat_eq_natCast,Option.getD_some,Option.getD_none] at *
    all_goals first
      | omega
      | rfl
      | (trace_state;fail)
  have e3:A.eq L rt=false:=by rw [hA.eq];exact decide_eq_false c3
  have h298:=ok152 ns rt x hx hxl L
  obtain ⟨u,hu⟩: ∃u,u=usrs L ns:=⟨_,rfl⟩
  rw [<-hu] at h298
  by_cases c4:u=1
  case neg=>
    have e4:A.eq u 1=false:=by rw [hA.eq];exact decide_eq_false c4
    have hr0:r=0:=by rw [hr,askS,if_pos (.inr (.inr (.inr (by rw [<-hu];exact c4))))]
    subst hr0
    clear hr hx hxw hlen hv hw hdL hxe2 hye2 hK2 hu
    cbv
    repeat' first | with_reducible rfl | (simp only [e1,e2,e3,e4];cbv) | with_reducible refine And.intro ?_ ?_ | ((with_reducible intro hcc);first | (cases hcc;done) | skip) | ((with_reducible first | show goC _ _ _ _ _ _ _ _ | show goOps _ _ _ _ _ | show goD _ _ _ _ _ _);cbv) | ((with_reducible show okWr _ _=_);rfl) | ((with_reducible first | refine callK_f hA hP h298 ?_ ?_ ?_);exact rfl;exact rfl;cbv) | ((with_reducible refine hA.row x j _ ⟨hin,fun row hrow=>?_⟩);rw [hrow0] at hrow;subst hrow;cbv) | ((with_reducible refine hA.row x L _ ⟨hinL,fun row hrow=>?_⟩);rw [hrowL] at hrow;subst hrow;cbv) | ((with_reducible first | refine hA.fin_pl _ _ _ ?_ | refine hA.len _ _ _ _ _ fun z hz hb=>?_ | refine hA.off _ _ _ _ fun b hb=>?_ | refine hA.plus _ _ _ fun b hb=>?_ | refine hA.alt _ _ (Or.inl ?_) | refine hA.gb0 true _ ?_ | refine hA.gb0 false _ ?_ | refine hA.gb _ _ fun vb hvb=>?_);cbv) | ((with_reducible first | refine hA.st _ _ _ _ _ ⟨?_,fun ds hds=>?_⟩);rotate_left;cbv) | (simp only [hA.lits];cbv)
    all_goals try simp only [hA.ar,inR,n_cast,Int.ofNat_eq_natCast,Option.getD_some,Option.getD_none] at *
    all_goals first
      | omega
      | rfl
      | (trace_state;fail)
  have e4:A.eq u 1=true:=by rw [hA.eq];exact decide_eq_true c4
  have hinW:(0:Int)<=L/\L<xw.length:=by
    have h1:xw.length=ns.length:=by rw [hxw,List.length_map,hwl]
    have h2:x.length=ns.length:=by rw [hx,List.length_map]
    omega
  obtain ⟨w,hww⟩: ∃w,w=ws.getD L.toNat 0:=⟨_,rfl⟩
  have hrowW:=ir_row hxw hinW
  rw [<-hww] at hrowW
  have hwb:0<=w/\w<=200:=by
    have hl:L.toNat<ws.length:=by rw [hxw,List.length_map] at hinW;omega
    rw [hww,List.getD,List.getElem?_eq_getElem hl]
    exact hw _ (List.getElem_mem hl)
  obtain ⟨m,hm⟩: ∃m,m=A.sub w 1:=⟨_,rfl⟩
  have hm':m=w-1:=by rw [hm,hA.sub]
  have hr1:r=exAsk Ex m:=by
    rw [hr,askS,if_neg]
    · rw [hm',hww]
    · simp only [not_or,Decidable.not_not]
      exact ⟨c1,by rw [hK2];exact c2,c3,by rw [<-hu];exact c4⟩
  obtain ⟨zx,hzx⟩: ∃z:Int,z=xe.length:=⟨_,rfl⟩
  have hxel:xe.length=Ex.length:=by rw [hxe,List.length_map]
  clear hr hx hxw hlen hv hw hdL hxe2 hye2 hK2 hu hww hd
  match Ex,hxe,hr1,hexl,hxel with
  | [],hxe,hr1,hexl,hxel=>
    have hr0:r=0:=hr1
    have e5:A.lt zx 1=true:=by rw [hA.lt];exact decide_eq_true (by rw [hzx,hxel];decide)
    clear hr1
    subst hr0
    cbv
    repeat' first | with_reducible rfl | (simp only [e1,e2,e3,e4,e5,<-hm];cbv) | with_reducible refine And.intro ?_ ?_ | ((with_reducible intro hcc);first | (cases hcc;done) | skip) | ((with_reducible first | show goC _ _ _ _ _ _ _ _ | show goOps _ _ _ _ _ | show goD _ _ _ _ _ _);cbv) | ((with_reducible show okWr _ _=_);rfl) | ((with_reducible first | refine callK_f hA hP h298 ?_ ?_ ?_);exact rfl;exact rfl;cbv) | ((with_reducible refine hA.len xe _ _ _ _ fun z hz hb=>?_);(have e6:=hzx.trans hz.symm);subst e6;cbv) | ((with_reducible refine hA.row x j _ ⟨hin,fun row hrow=>?_⟩);rw [hrow0] at hrow;subst hrow;cbv) | ((with_reducible refine hA.row x L _ ⟨hinL,fun row hrow=>?_⟩);rw [hrowL] at hrow;subst hrow;cbv) | ((with_reducible refine hA.row xw L _ ⟨hinW,fun row hrow=>?_⟩);rw [hrowW] at hrow;subst hrow;cbv) | ((with_reducible refine hA.alt _ _ (Or.inr ⟨?_,.bool false,?_⟩));(first | rfl | trivial);cbv) | ((with_reducible refine hA.row0 xe _ _ fun p row=>?_);cbv) | ((with_reducible first | refine hA.fin_pl _ _ _ ?_ | refine hA.len _ _ _ _ _ fun z hz hb=>?_ | refine hA.off _ _ _ _ fun b hb=>?_ | refine hA.plus _ _ _ fun b hb=>?_ | refine hA.alt _ _ (Or.inl ?_) | refine hA.gb0 true _ ?_ | refine hA.gb0 false _ ?_ | refine hA.gb _ _ fun vb hvb=>?_);cbv) | ((with_reducible first | refine hA.st _ _ _ _ _ ⟨?_,fun ds hds=>?_⟩);rotate_left;cbv) | (simp only [hA.lits];cbv)
    all_goals try simp only [hA.ar,inR,n_cast,Int.ofNat_eq_natCast,Option.getD_some,Option.getD_none] at *
    all_goals first
      | omega
      | rfl
      | (trace_state;fail)
  | (k1,n1)::rest,hxe,hr1,hexl,hxel=>
    have e5:A.lt zx 1=false:=by rw [hA.lt];exact decide_eq_false (by rw [hzx,hxel,List.length_cons];omega)
    have hin0:(0:Int)<=0/\(0:Int)<xe.length:=⟨by omega,by rw [hxel,List.length_cons];omega⟩
    have hrx0:xe.getD (0:Int).toNat []= [E.int k1,E.int n1]:=by rw [hxe];rfl
    by_cases d1:k1=3
    case neg=>
      have g1:A.eq k1 3=false:=by rw [hA.eq];exact decide_eq_false d1
      have hr0:r=0:=by
        rw [hr1]
        unfold exAsk
        split
        · rename_i h;cases h;rw [if_neg (fun h=>d1 h.1)]
        · rename_i h;cases h;rw [if_neg (fun h=>d1 h.1.1)]
        · rfl
      clear hr1 hxe
      subst hr0
      cbv
      repeat' first | with_reducible rfl | (simp only [e1,e2,e3,e4,e5,g1,<-hm];cbv) | with_reducible refine And.intro ?_ ?_ | ((with_reducible intro hcc);first | (cases hcc;done) | skip) | ((with_reducible first | show goC _ _ _ _ _ _ _ _ | show goOps _ _ _ _ _ | show goD _ _ _ _ _ _);cbv) | ((with_reducible show okWr _ _=_);rfl) | ((with_reducible first | refine callK_f hA hP h298 ?_ ?_ ?_);exact rfl;exact rfl;cbv) | ((with_reducible refine hA.len xe _ _ _ _ fun z hz hb=>?_);(have e6:=hzx.trans hz.symm);subst e6;cbv) | ((with_reducible refine hA.row x j _ ⟨hin,fun row hrow=>?_⟩);rw [hrow0] at hrow;subst hrow;cbv) | ((with_reducible refine hA.row x L _ ⟨hinL,fun row hrow=>?_⟩);rw [hrowL] at hrow;subst hrow;cbv) | ((with_reducible refine hA.row xw L _ ⟨hinW,fun row hrow=>?_⟩);rw [hrowW] at hrow;subst hrow;cbv) | ((with_reducible refine hA.row xe 0 _ ⟨hin0,fun row hrow=>?_⟩);rw [hrx0] at hrow;subst hrow;cbv) | ((with_reducible refine hA.alt _ _ (Or.inr ⟨?_,.bool false,?_⟩));(first | rfl | trivial);cbv) | ((with_reducible refine hA.row0 xe _ _ fun p row=>?_);cbv) | ((with_reducible first | refine hA.fin_pl _ _ _ ?_ | refine hA.len _ _ _ _ _ fun z hz hb=>?_ | refine hA.off _ _ _ _ fun b hb=>?_ | refine hA.plus _ _ _ fun b hb=>?_ | refine hA.alt _ _ (Or.inl ?_) | refine hA.gb0 true _ ?_ | refine hA.gb0 false _ ?_ | refine hA.gb _ _ fun vb hvb=>?_);cbv) | ((with_reducible first | refine hA.st _ _ _ _ _ ⟨?_,fun ds hds=>?_⟩);rotate_left;cbv) | (simp only [hA.lits];cbv)
      all_goals try simp only [hA.ar,inR,n_cast,Int.ofNat_eq_natCast,Option.getD_some,Option.getD_none] at *
      all_goals first
        | omega
        | rfl
        | (trace_state;fail)
    have g1:A.eq k1 3=true:=by rw [hA.eq];exact decide_eq_true d1
    by_cases d2:n1=m
    case neg=>
      have g2:A.eq n1 m=false:=by rw [hA.eq];exact decide_eq_false d2
      have hr0:r=0:=by
        rw [hr1]
        unfold exAsk
        split
        · rename_i h;cases h;rw [if_neg (fun h=>d2 h.2)]
        · rename_i h;cases h;rw [if_neg (fun h=>d2 h.1.2)]
        · rfl
      clear hr1 hxe
      subst hr0
      cbv
      repeat' first | with_reducible rfl | (simp only [e1,e2,e3,e4,e5,g1,g2,<-hm];cbv) | with_reducible refine And.intro ?_ ?_ | ((with_reducible intro hcc);first | (cases hcc;done) | skip) | ((with_reducible first | show goC _ _ _ _ _ _ _ _ | show goOps _ _ _ _ _ | show goD _ _ _ _ _ _);cbv) | ((with_reducible show okWr _ _=_);rfl) | ((with_reducible first | refine callK_f hA hP h298 ?_ ?_ ?_);exact rfl;exact rfl;cbv) | ((with_reducible refine hA.len xe _ _ _ _ fun z hz hb=>?_);(have e6:=hzx.trans hz.symm);subst e6;cbv) | ((with_reducible refine hA.row x j _ ⟨hin,fun row hrow=>?_⟩);rw [hrow0] at hrow;subst hrow;cbv) | ((with_reducible refine hA.row x L _ ⟨hinL,fun row hrow=>?_⟩);rw [hrowL] at hrow;subst hrow;cbv) | ((with_reducible refine hA.row xw L _ ⟨hinW,fun row hrow=>?_⟩);rw [hrowW] at hrow;subst hrow;cbv) | ((with_reducible refine hA.row xe 0 _ ⟨hin0,fun row hrow=>?_⟩);rw [hrx0] at hrow;subst hrow;cbv) | ((with_reducible first | refine hA.fin_pl _ _ _ ?_ | refine hA.len _ _ _ _ _ fun z hz hb=>?_ | refine hA.off _ _ _ _ fun b hb=>?_ | refine hA.plus _ _ _ fun b hb=>?_ | refine hA.alt _ _ (Or.inl ?_) | refine hA.gb0 true _ ?_ | refine hA.gb0 false _ ?_ | refine hA.gb _ _ fun vb hvb=>?_);cbv) | ((with_reducible first | refine hA.st _ _ _ _ _ ⟨?_,fun ds hds=>?_⟩);rotate_left;cbv) | (simp only [hA.lits];cbv)
      all_goals try simp only [hA.ar,inR,n_cast,Int.ofNat_eq_natCast,Option.getD_some,Option.getD_none] at *
      all_goals first
        | omega
        | rfl
        | (trace_state;fail)
    have g2:A.eq n1 m=true:=by rw [hA.eq];exact decide_eq_true d2
    match rest,hxe,hr1,hexl,hxel with
    | [],hxe,hr1,hexl,hxel=>
      have g3:A.eq zx 1=true:=by rw [hA.eq];exact decide_eq_true (by rw [hzx,hxel];rfl)
      have hr0:r=1:=by rw [hr1];simp [exAsk,d1,d2]
      clear hr1 hxe
      subst hr0
      cbv
      repeat' first | with_reducible rfl | (simp only [e1,e2,e3,e4,e5,g1,g2,g3,<-hm];cbv) | with_reducible refine And.intro ?_ ?_ | ((with_reducible intro hcc);first | (cases hcc;done) | skip) | ((with_reducible first | show goC _ _ _ _ _ _ _ _ | show goOps _ _ _ _ _ | show goD _ _ _ _ _ _);cbv) | ((with_reducible show okWr _ _=_);rfl) | ((with_reducible first | refine callK_f hA hP h298 ?_ ?_ ?_);exact rfl;exact rfl;cbv) | ((with_reducible refine hA.len xe _ _ _ _ fun z hz hb=>?_);(have e6:=hzx.trans hz.symm);subst e6;cbv) | ((with_reducible refine hA.row x j _ ⟨hin,fun row hrow=>?_⟩);rw [hrow0] at hrow;subst hrow;cbv) | ((with_reducible refine hA.row x L _ ⟨hinL,fun row hrow=>?_⟩);rw [hrowL] at hrow;subst hrow;cbv) | ((with_reducible refine hA.row xw L _ ⟨hinW,fun row hrow=>?_⟩);rw [hrowW] at hrow;subst hrow;cbv) | ((with_reducible refine hA.row xe 0 _ ⟨hin0,fun row hrow=>?_⟩);rw [hrx0] at hrow;subst hrow;cbv) | ((with_reducible first | refine hA.fin_pl _ _ _ ?_ | refine hA.len _ _ _ _ _ fun z hz hb=>?_ | refine hA.off _ _ _ _ fun b hb=>?_ | refine hA.plus _ _ _ fun b hb=>?_ | refine hA.alt _ _ (Or.inl ?_) | refine hA.gb0 true _ ?_ | refine hA.gb0 false _ ?_ | refine hA.gb _ _ fun vb hvb=>?_);cbv) | ((with_reducible first | refine hA.st _ _ _ _ _ ⟨?_,fun ds hds=>?_⟩);rotate_left;cbv) | (simp only [hA.lits];cbv)
      all_goals try simp only [hA.ar,inR,n_cast,Int.ofNat_eq_natCast,Option.getD_some,Option.getD_none] at *
      all_goals first
        | omega
        | rfl
        | (trace_state;fail)
    | (k2,n2)::rest2,hxe,hr1,hexl,hxel=>
      have g3:A.eq zx 1=false:=by rw [hA.eq];exact decide_eq_false (by rw [hzx,hxel,List.length_cons,List.length_cons];omega)
      have hin1:(0:Int)<=1/\(1:Int)<xe.length:=⟨by omega,by rw [hxel,List.length_cons,List.length_cons];omega⟩
      have hrx1:xe.getD (1:Int).toNat []= [E.int k2,E.int n2]:=by rw [hxe];rfl
      obtain ⟨g,hg⟩: ∃b,b=A.eq zx 2:=⟨_,rfl⟩
      have hg':g=decide (rest2= []):=by
        rw [hg,hA.eq,hzx,hxel]
        cases rest2 with
        | nil=>rfl
        | cons a l=>simp;omega
      obtain ⟨g7,hg7⟩: ∃b,b=A.eq k2 7:=⟨_,rfl⟩
      have hg7':g7=decide (k2=7):=by rw [hg7,hA.eq]
      have hr0:r=if g&&g7 then 2 else 0:=by
        rw [hr1,hg',hg7']
        cases rest2 with
        | nil=>simp [exAsk,d1,d2]
        | cons a l=>simp [exAsk]
      clear hr1 hxe hg' hg7'
      cases g <;>cases g7
      all_goals
        simp only [Bool.and_true,Bool.and_false,Bool.false_eq_true,if_false,if_true,Bool.and_self] at hr0
        subst hr0
        cbv
        repeat' first | with_reducible rfl | (simp only [e1,e2,e3,e4,e5,g1,g2,g3,<-hg,<-hg7,<-hm];cbv) | with_reducible refine And.intro ?_ ?_ | ((with_reducible intro hcc);first | (cases hcc;done) | skip) | ((with_reducible first | show goC _ _ _ _ _ _ _ _ | show goOps _ _ _ _ _ | show goD _ _ _ _ _ _);cbv) | ((with_reducible show okWr _ _=_);rfl) | ((with_reducible first | refine callK_f hA hP h298 ?_ ?_ ?_);exact rfl;exact rfl;cbv) | ((with_reducible refine hA.len xe _ _ _ _ fun z hz hb=>?_);(have e6:=hzx.trans hz.symm);subst e6;cbv) | ((with_reducible refine hA.row x j _ ⟨hin,fun row hrow=>?_⟩);rw [hrow0] at hrow;subst hrow;cbv) | ((with_reducible refine hA.row x L _ ⟨hinL,fun row hrow=>?_⟩);rw [hrowL] at hrow;subst hrow;cbv) | ((with_reducible refine hA.row xw L _ ⟨hinW,fun row hrow=>?_⟩);rw [hrowW] at hrow;subst hrow;cbv) | ((with_reducible refine hA.row xe 0 _ ⟨hin0,fun row hrow=>?_⟩);rw [hrx0] at hrow;subst hrow;cbv) | ((with_reducible refine hA.row xe 1 _ ⟨hin1,fun row hrow=>?_⟩);rw [hrx1] at hrow;subst hrow;cbv) | ((with_reducible refine hA.alt _ _ (Or.inr ⟨?_,.bool false,?_⟩));(first | rfl | trivial);cbv) | ((with_reducible refine hA.row0 xe _ _ fun p row=>?_);cbv) | ((with_reducible first | refine hA.fin_pl _ _ _ ?_ | refine hA.len _ _ _ _ _ fun z hz hb=>?_ | refine hA.off _ _ _ _ fun b hb=>?_ | refine hA.plus _ _ _ fun b hb=>?_ | refine hA.alt _ _ (Or.inl ?_) | refine hA.gb0 true _ ?_ | refine hA.gb0 false _ ?_ | refine hA.gb _ _ fun vb hvb=>?_);cbv) | ((with_reducible first | refine hA.st _ _ _ _ _ ⟨?_,fun ds hds=>?_⟩);rotate_left;cbv) | (simp only [hA.lits];cbv)
        all_goals try simp only [hA.ar,inR,n_cast,Int.ofNat_eq_natCast,Option.getD_some,Option.getD_none] at *
      all_goals first
        | omega
        | rfl
        | (trace_state;fail))
end Go.Proofs.Ytfplalbognalkaa.Ab
/- Tables: valid, by the specification. -/
namespace Go.Proofs.Ytfplalbognalkaa.Ab
open Go
def fidxN:List Tb->List UInt8->Int->Int
  | [],_,_=> -1
  | t::r,n,k=>if t.1=n then k else fidxN r n (k+1)
def fidx (ts:List Tb) (n:List UInt8):Int:=fidxN ts n 0
theorem fidx_at: ∀(l:List Tb) (m:Nat) (t:Tb) (k:Int),l[m]?=some t->k<=fidxN l t.1 k/\(fidxN l t.1 k=k+m ↔ ∀j t',j<m->l[j]?=some t'->t'.1≠t.1)
  | [],m,t,k,h=>by simp at h
  | a::l,0,t,k,h=>by
    simp at h;subst h
    simp [fidxN]
  | a::l,m+1,t,k,h=>by
    obtain ⟨h1,h2⟩:=fidx_at l m t (k+1) (by simpa using h)
    by_cases e:a.1=t.1
    · have e2:fidxN (a::l) t.1 k=k:=if_pos e
      rw [e2]
      refine ⟨Int.le_refl _,⟨fun q=>by omega,fun q=>absurd e (q 0 a (by omega) rfl)⟩⟩
    · have e2:fidxN (a::l) t.1 k=fidxN l t.1 (k+1):=if_neg e
      rw [e2]
      refine ⟨by omega,?_⟩
      rw [show k+((m+1:Nat):Int)=k+1+m by omega,h2]
      constructor
      · intro q j t' hj ht
        cases j with
        | zero=>simp at ht;subst ht;exact e
        | succ j=>exact q j t' (by omega) (by simpa using ht)
      · intro q j t' hj ht
        exact q (j+1) t' (by omega) (by simpa using ht)
def good (ts:List Tb) (i:Nat) (t:Tb):Bool:=nameB t.1&&(decide (1<=t.2.1/\t.2.1<=16)&&(decide (fidx ts t.1=i)&&t.2.2.all fun r=>decide ((r.length:Int)=t.2.1)))
def rlen (t:Tb):Int:=t.2.2.length
theorem rlen_nonneg (t:Tb):0<=rlen t:=by unfold rlen;omega
def dbOk (ts:List Tb):Bool:=decide (ts.length<=50)&&(((List.range ts.length).all fun i=>good ts i (ts.getD i ([],0, [])))&&decide (sumC rlen ts<=1000))
theorem dbF (ts:List Tb):(50<ts.length->dbOk ts=false)/\(∀i t,ts[i]?=some t->good ts i t=false->dbOk ts=false)/\
    (ts.length<=50->(∀i t,ts[i]?=some t->good ts i t=true)->dbOk ts=decide (sumC rlen ts<=1000)):=by
  refine ⟨fun h=>by simp [dbOk,show¬ts.length<=50 by omega],fun i t h e=>?_,fun h q=>?_⟩
  · have hi:=(List.getElem?_eq_some_iff.1 h).1
    have:((List.range ts.length).all fun i=>good ts i (ts.getD i ([],0, [])))=false:=by
      rw [List.all_eq_false]
      exact ⟨i,by simp [hi],by simp [List.getD,h,e]⟩
    rw [dbOk,this];simp
  · have:((List.range ts.length).all fun i=>good ts i (ts.getD i ([],0, [])))=true:=by
      rw [List.all_eq_true]
      intro i hi
      simp at hi
      exact q i _ (by simp [List.getD,hi])
    rw [dbOk,this,decide_eq_true h];simp
theorem sz_rows (ts:List Tb):sumC rlen ts<=cTS ts:=by
  have: ∀l:List Tb,sumC rlen l<=sumC cT l:=fun l=>by
    induction l with
    | nil=>exact Int.le_refl _
    | cons t l ih=>
      simp only [sumC]
      have:=sumC_nonneg cV_nonneg t.2.2
      have:rlen t<=cT t:=by unfold rlen cT cSS;omega
      omega
  have:=this ts
  unfold cTS;omega
theorem sz_row {ts:List Tb} {t:Tb} (h:t∈ts):cT t<=cTS ts:=by have:=sumC_mem cT_nonneg h;unfold cTS;omega
set_option maxRecDepth 100000 in
theorem ok128 (ts:List Tb) (x:List (List E)) (hx:x=ts.map tbr) (n:List UInt8):Plain Try.prog 128 [.agg [.e (.sl x)],.str n] (.int (fidx ts n)):=okOf mixed p128 fun A P hA hP=>(by
  have hl:x.length=ts.length:=by rw [hx];simp
  obtain ⟨r,hr⟩: ∃r,r=fidx ts n:=⟨_,rfl⟩
  rw [<-hr]
  cbv
  repeat' first | with_reducible rfl | with_reducible refine And.intro ?_ ?_ | ((with_reducible intro hcc);first | (cases hcc;done) | skip) | ((with_reducible first | show goC _ _ _ _ _ _ _ _ | show goOps _ _ _ _ _ | show goD _ _ _ _ _ _);cbv) | ((with_reducible show okWr _ _=_);rfl) | ((with_reducible first | refine hA.fin_pl _ _ _ ?_ | refine hA.len _ _ _ _ _ fun z hz hb=>?_ | refine hA.off _ _ _ _ fun b hb=>?_ | refine hA.plus _ _ _ fun b hb=>?_);cbv) | ((with_reducible first | refine hA.sapp _ _ _ ⟨?_,fun sl hsl=>?_⟩);rotate_left;cbv) | (simp only [hA.lits];cbv)
  all_goals try simp only [hA.ar,inR,n_cast,Int.ofNat_eq_natCast,Option.getD_some,Option.getD_none] at *
  refine hA.loopI (fun m s=> ∃i:Int,0<=i/\m+i=x.length/\r=fidxN (ts.drop i.toNat) n i/\s=⟨[(5,.int i),(1,.str n),(2,.ref 0 0),(4,.int 0)], [.box [.e (.sl x)]]⟩) x.length _
    (Weak.keep (env':= [(5,.int 0),(1,.str n),(2,.ref 0 0),(4,.int 0)]) ⟨rfl,rfl,rfl,rfl,trivial⟩) ⟨0,by omega,by omega,by simpa [fidx] using hr,rfl⟩ ?_
  rintro m s K ⟨i,h0,h1,h2,rfl⟩ hK
  by_cases hin:(0:Int)<=i/\i<x.length
  · obtain ⟨⟨n1,c1,rs1⟩,e1,q1⟩:=row_at hx hin
    obtain ⟨x1,hx1⟩: ∃y,y=rs1.map rsr:=⟨_,rfl⟩
    have e1:x.getD i.toNat []= [E.str n1,E.int c1,E.sl x1]:=e1.trans (by rw [hx1])
    have h3:r=if n1=n then i else fidxN (ts.drop (i.toNat+1)) n (i+1):=by
      obtain ⟨a,b⟩:=List.getElem?_eq_some_iff.1 q1
      rw [h2,List.drop_eq_getElem_cons a,b];rfl
    have e8:(i+1).toNat=i.toNat+1:=by omega
    clear h2 hr
    cbv
    repeat' first | with_reducible rfl | with_reducible refine And.intro ?_ ?_ | ((with_reducible intro hcc);first | (cases hcc;done) | skip) | ((with_reducible first | show goC _ _ _ _ _ _ _ _ | show goOps _ _ _ _ _ | show goD _ _ _ _ _ _);cbv) | ((with_reducible show okWr _ _=_);rfl) | ((with_reducible refine hA.row x _ _ ⟨hin,fun row hrow=>?_⟩);rw [e1] at hrow;subst hrow;cbv) | ((with_reducible first | refine hA.fin_pl _ _ _ ?_ | refine hA.len _ _ _ _ _ fun z hz hb=>?_ | refine hA.off _ _ _ _ fun b hb=>?_ | refine hA.plus _ _ _ fun b hb=>?_);cbv) | ((with_reducible first | refine hA.sapp _ _ _ ⟨?_,fun sl hsl=>?_⟩);rotate_left;cbv) | (simp only [hA.lits];cbv)
    all_goals try simp only [hA.ar,inR,n_cast,Int.ofNat_eq_natCast,Option.getD_some,Option.getD_none] at *
    all_goals first
      | omega
      | (rw [h3,if_pos (by simpa using (by assumption:decide (n1=n)=true))];done)
      | (refine hK _ (m-1) _ (by omega) (Weak.keep (env':= [(5,.int (i+1)),(1,.str n),(2,.ref 0 0),(4,.int 0)]) ⟨rfl,rfl,rfl,rfl,trivial⟩) ⟨i+1,by omega,by omega,?_,rfl⟩
         rw [h3,if_neg (by simpa using (by assumption:decide (n1=n)=false)),e8])
      | (clear hK h3;simp at *;omega)
      | (trace_state;fail)
  · have hd:ts.drop i.toNat= []:=by rw [List.drop_eq_nil_iff];omega
    rw [hd] at h2
    have h3:r= -1:=h2
    clear hK h2 hr
    cbv
    repeat' first | with_reducible rfl | with_reducible refine And.intro ?_ ?_ | ((with_reducible intro hcc);first | (cases hcc;done) | skip) | ((with_reducible first | show goC _ _ _ _ _ _ _ _ | show goOps _ _ _ _ _ | show goD _ _ _ _ _ _);cbv) | ((with_reducible show okWr _ _=_);rfl) | (exfalso;simp only [hA.lt,hA.sub,decide_eq_true_eq,decide_eq_false_iff_not,n_cast] at *;omega) | ((with_reducible first | refine hA.fin_pl _ _ _ ?_ | refine hA.len _ _ _ _ _ fun z hz hb=>?_ | refine hA.off _ _ _ _ fun b hb=>?_ | refine hA.plus _ _ _ fun b hb=>?_);cbv) | ((with_reducible first | refine hA.sapp _ _ _ ⟨?_,fun sl hsl=>?_⟩);rotate_left;cbv) | (simp only [hA.lits];cbv)
    all_goals try simp only [hA.ar,inR,n_cast,Int.ofNat_eq_natCast,Option.getD_some,Option.getD_none] at *
    all_goals first
      | (rw [h3];done)
      | omega
      | (trace_state;fail))
theorem good_iff {ts:List Tb} {i:Nat} {n:List UInt8} {c:Int} {rs:List (List (Bool×Int))} :good ts i (n,c,rs)=true ↔ nameB n=true/\(1<=c/\c<=16)/\fidx ts n=i/\ ∀r∈rs,(r.length:Int)=c:=by
  simp [good]
set_option maxRecDepth 100000 in
set_option maxHeartbeats 2000000 in
theorem ok73 (ts:List Tb) (x:List (List E)) (hx:x=ts.map tbr) (hsz:cTS ts<=1048576):Plain Try.prog 73 [.agg [.e (.sl x)]] (.bool (dbOk ts)):=okOf mixed p73 fun A P hA hP=>(by
  have hl:x.length=ts.length:=by rw [hx];simp
  obtain ⟨d1,d2,d3⟩:=dbF ts
  obtain ⟨r,hr⟩: ∃r,r=dbOk ts:=⟨_,rfl⟩
  rw [<-hr] at d1 d2 d3 ⊢
  clear hr
  cbv
  repeat' first | with_reducible rfl | with_reducible refine And.intro ?_ ?_ | ((with_reducible intro hcc);first | (cases hcc;done) | skip) | ((with_reducible first | show goC _ _ _ _ _ _ _ _ | show goOps _ _ _ _ _ | show goD _ _ _ _ _ _);cbv) | ((with_reducible show okWr _ _=_);rfl) | ((with_reducible first | refine hA.fin_pl _ _ _ ?_ | refine hA.len _ _ _ _ _ fun z hz hb=>?_ | refine hA.off _ _ _ _ fun b hb=>?_ | refine hA.plus _ _ _ fun b hb=>?_ | refine hA.alt _ _ (Or.inl ?_) | refine hA.gb0 true _ ?_ | refine hA.gb0 false _ ?_ | refine hA.gb _ _ fun vb hvb=>?_);cbv) | ((with_reducible first | refine hA.st _ _ _ _ _ ⟨?_,fun ds hds=>?_⟩ | refine hA.sapp _ _ _ ⟨?_,fun sl hsl=>?_⟩);rotate_left;cbv) | (simp only [hA.lits];cbv)
  all_goals try simp only [hA.ar,inR,n_cast,Int.ofNat_eq_natCast,Option.getD_some,Option.getD_none] at *
  all_goals try (first | (rw [d1 (by simp at *;omega)];done))
  have h50:ts.length<=50:=by clear d1 d2 d3;simp at *;omega
  have hrn:=sz_rows ts
  refine hA.loopI (fun m s=> ∃i rows:Int,0<=i/\m+i=x.length/\0<=rows/\rows+sumC rlen (ts.drop i.toNat)=sumC rlen ts/\(∀(j:Nat) t,(j:Int)<i->ts[j]?=some t->good ts j t=true)/\
      s=⟨[(4,.int i),(3,.int rows),(2,.bool false),(1,.ref 0 0)], [.box [.e (.sl x)]]⟩) x.length _
    (Weak.keep (env':= [(4,.int 0),(3,.int 0),(2,.bool false),(1,.ref 0 0)]) ⟨rfl,rfl,rfl,rfl,trivial⟩) ⟨0,0,by omega,by omega,by omega,by simp,fun j t hj=>by omega,rfl⟩ ?_
  rintro m s K ⟨i,rows,h0,h1,h2,h3,h4,rfl⟩ hK
  by_cases hin:(0:Int)<=i/\i<x.length
  · obtain ⟨⟨n1,c1,rs1⟩,e1,q1⟩:=row_at hx hin
    obtain ⟨x1,hx1⟩: ∃y,y=rs1.map rsr:=⟨_,rfl⟩
    have e1:x.getD i.toNat []= [E.str n1,E.int c1,E.sl x1]:=e1.trans (by rw [hx1])
    have hl1:x1.length=rs1.length:=by rw [hx1];simp
    rw [sumC_drop q1] at h3
    have hS:=sumC_nonneg rlen_nonneg (ts.drop (i.toNat+1))
    have hrl:rlen (n1,c1,rs1)=x1.length:=by rw [hl1];rfl
    have hd:=d2 i.toNat _ q1
    have gi:=good_iff (ts:=ts) (i:=i.toNat) (n:=n1) (c:=c1) (rs:=rs1)
    obtain ⟨g,hg⟩: ∃g,g=good ts i.toNat (n1,c1,rs1):=⟨_,rfl⟩
    rw [<-hg] at hd gi
    obtain ⟨nb,hnb⟩: ∃b,b=nameB n1:=⟨_,rfl⟩
    obtain ⟨fi,hfi⟩: ∃f,f=fidx ts n1:=⟨_,rfl⟩
    rw [<-hnb,<-hfi] at gi
    have h66:=ok115 n1
    have h67:=ok128 ts x hx n1
    rw [<-hnb] at h66
    rw [<-hfi] at h67
    have e8:(i+1).toNat=i.toNat+1:=by omega
    have hK2:(g=true)-> ∀w:Int,w=rows+x1.length-> ∀s1,Weak (hpF []) s1 ⟨[(4,.int (i+1)),(3,.int w),(2,.bool false),(1,.ref 0 0)], [.box [.e (.sl x)]]⟩->K s1:=fun e w hww s1 hw=>by
      refine hK s1 (m-1) _ (by omega) hw ⟨i+1,_,by omega,by omega,by omega,by rw [e8];omega,fun j t hj ht=>?_,rfl⟩
      by_cases hji:(j:Int)<i
      · exact h4 j t hji ht
      · have:j=i.toNat:=by omega
        subst this
        rw [q1] at ht
        cases ht
        rw [<-hg];exact e
    clear hK h4 hnb hfi hg d1 d2 d3
    cbv
    repeat' first | with_reducible rfl | with_reducible refine And.intro ?_ ?_ | ((with_reducible intro hcc);first | (cases hcc;done) | skip) | ((with_reducible first | show goC _ _ _ _ _ _ _ _ | show goOps _ _ _ _ _ | show goD _ _ _ _ _ _);cbv) | ((with_reducible show okWr _ _=_);rfl) | ((with_reducible first | refine callK_f hA hP h66 ?_ ?_ ?_ | refine callK_f hA hP h67 ?_ ?_ ?_);exact rfl;exact rfl;cbv) | ((with_reducible refine hA.row x _ _ ⟨hin,fun row hrow=>?_⟩);rw [e1] at hrow;subst hrow;cbv) | ((with_reducible first | refine hA.fin_pl _ _ _ ?_ | refine hA.len _ _ _ _ _ fun z hz hb=>?_ | refine hA.off _ _ _ _ fun b hb=>?_ | refine hA.plus _ _ _ fun b hb=>?_ | refine hA.alt _ _ (Or.inl ?_) | refine hA.gb0 true _ ?_ | refine hA.gb0 false _ ?_ | refine hA.gb _ _ fun vb hvb=>?_);cbv) | ((with_reducible first | refine hA.st _ _ _ _ _ ⟨?_,fun ds hds=>?_⟩ | refine hA.sapp _ _ _ ⟨?_,fun sl hsl=>?_⟩);rotate_left;cbv) | (simp only [hA.lits];cbv)
    all_goals try simp only [hA.ar,inR,n_cast,Int.ofNat_eq_natCast,Option.getD_some,Option.getD_none] at *
    all_goals try (first
      | omega
      | (clear hK2 hd gi h66 h67;simp at *;omega)
      | (clear hK2 hd gi h66 h67;grind;done))
    · have hf:g=false:=by
        rw [Bool.eq_false_iff]
        intro q
        obtain ⟨a1,a2,a3,_⟩:=gi.1 q
        clear hK2 hd gi h66 h67
        simp at *
        grind
      rw [hd hf]
    · have hpre:g=true ↔ ∀r∈rs1,(r.length:Int)=c1:=by
        rw [gi]
        have:nb=true/\(1<=c1/\c1<=16)/\fi= ↑i.toNat:=by
          clear hK2 hd gi h66 h67
          simp at *
          grind
        exact ⟨fun q=>q.2.2.2,fun q=>⟨this.1,this.2.1,this.2.2,q⟩⟩
      clear gi h66 h67
      refine hA.loopI (fun mm s=> ∃jj:Int,0<=jj/\mm+jj=x1.length/\(∀(k:Nat) r',(k:Int)<jj->rs1[k]?=some r'->(r'.length:Int)=c1)/\
          s=⟨[(6,.int jj),(5,.ref 1 0),(4,.int i),(3,.int rows),(2,.bool false),(1,.ref 0 0)], [.box [.e (.sl x)],.box [.str n1,.int c1,.e (.sl x1)]]⟩) x1.length _
        (Weak.keep (env':= [(6,.int 0),(5,.ref 1 0),(4,.int i),(3,.int rows),(2,.bool false),(1,.ref 0 0)]) ⟨rfl,rfl,rfl,rfl,rfl,rfl,trivial⟩) ⟨0,by omega,by omega,fun k r' hk=>by omega,rfl⟩ ?_
      rintro mm s K3 ⟨jj,j0,j1,j2,rfl⟩ hK3
      by_cases hjn:(0:Int)<=jj/\jj<x1.length
      · obtain ⟨r1,e2,q2⟩:=row_at hx1 hjn
        obtain ⟨y1,hy1⟩: ∃y,y=r1.map vr:=⟨_,rfl⟩
        have e2:x1.getD jj.toNat []= [E.sl y1]:=e2.trans (by rw [hy1])
        have hly:y1.length=r1.length:=by rw [hy1];simp
        have k1: ¬(r1.length:Int)=c1->r=false:=fun q=>hd (by
          rw [Bool.eq_false_iff]
          intro q'
          exact q (hpre.1 q' r1 (List.mem_of_getElem? q2)))
        have k2:(r1.length:Int)=c1-> ∀s1,Weak (hpF []) s1 ⟨[(6,.int (jj+1)),(5,.ref 1 0),(4,.int i),(3,.int rows),(2,.bool false),(1,.ref 0 0)], [.box [.e (.sl x)],.box [.str n1,.int c1,.e (.sl x1)]]⟩->K3 s1:=fun q s1 hw=>by
          refine hK3 s1 (mm-1) _ (by omega) hw ⟨jj+1,by omega,by omega,fun k r' hk hr'=>?_,rfl⟩
          by_cases hkj:(k:Int)<jj
          · exact j2 k r' hkj hr'
          · have:k=jj.toNat:=by omega
            subst this
            rw [q2] at hr'
            cases hr'
            exact q
        clear hK3 hK2 hd hpre j2
        cbv
        repeat' first | with_reducible rfl | with_reducible refine And.intro ?_ ?_ | ((with_reducible intro hcc);first | (cases hcc;done) | skip) | ((with_reducible first | show goC _ _ _ _ _ _ _ _ | show goOps _ _ _ _ _ | show goD _ _ _ _ _ _);cbv) | ((with_reducible show okWr _ _=_);rfl) | ((with_reducible refine hA.row x1 _ _ ⟨hjn,fun row hrow=>?_⟩);rw [e2] at hrow;subst hrow;cbv) | ((with_reducible first | refine hA.fin_pl _ _ _ ?_ | refine hA.len _ _ _ _ _ fun z hz hb=>?_ | refine hA.off _ _ _ _ fun b hb=>?_ | refine hA.plus _ _ _ fun b hb=>?_ | refine hA.alt _ _ (Or.inl ?_) | refine hA.gb0 true _ ?_ | refine hA.gb0 false _ ?_ | refine hA.gb _ _ fun vb hvb=>?_);cbv) | ((with_reducible first | refine hA.st _ _ _ _ _ ⟨?_,fun ds hds=>?_⟩ | refine hA.sapp _ _ _ ⟨?_,fun sl hsl=>?_⟩);rotate_left;cbv) | (simp only [hA.lits];cbv)
        all_goals try simp only [hA.ar,inR,n_cast,Int.ofNat_eq_natCast,Option.getD_some,Option.getD_none] at *
        all_goals first
          | omega
          | (rw [k1 (by clear k1 k2 hx hx1 e1 e2 hy1;grind)];done)
          | (exact k2 (by clear k1 k2 hx hx1 e1 e2 hy1;grind) _ (Weak.keep ⟨rfl,rfl,rfl,rfl,rfl,rfl,trivial⟩))
          | (clear k1 k2;simp at *;omega)
          | (clear k1 k2;grind;done)
          | (trace_state;fail)
      · have hgt:g=true:=hpre.2 fun r' hr'=>by
          obtain ⟨k,hk,e⟩:=List.getElem_of_mem hr'
          exact j2 k r' (by omega) (by rw [<-e];simp [hk])
        have hK4:=hK2 hgt
        clear hK3 hK2 hd hpre j2
        cbv
        repeat' first | with_reducible rfl | with_reducible refine And.intro ?_ ?_ | ((with_reducible intro hcc);first | (cases hcc;done) | skip) | ((with_reducible first | show goC _ _ _ _ _ _ _ _ | show goOps _ _ _ _ _ | show goD _ _ _ _ _ _);cbv) | ((with_reducible show okWr _ _=_);rfl) | (exfalso;simp only [hA.lt,hA.sub,decide_eq_true_eq,decide_eq_false_iff_not,n_cast] at *;omega) | ((with_reducible first | refine hA.fin_pl _ _ _ ?_ | refine hA.len _ _ _ _ _ fun z hz hb=>?_ | refine hA.off _ _ _ _ fun b hb=>?_ | refine hA.plus _ _ _ fun b hb=>?_ | refine hA.alt _ _ (Or.inl ?_) | refine hA.gb0 true _ ?_ | refine hA.gb0 false _ ?_ | refine hA.gb _ _ fun vb hvb=>?_);cbv) | ((with_reducible first | refine hA.st _ _ _ _ _ ⟨?_,fun ds hds=>?_⟩ | refine hA.sapp _ _ _ ⟨?_,fun sl hsl=>?_⟩);rotate_left;cbv) | (simp only [hA.lits];cbv)
        all_goals try simp only [hA.ar,inR,n_cast,Int.ofNat_eq_natCast,Option.getD_some,Option.getD_none] at *
        all_goals first
          | omega
          | (refine hK4 _ ?_ _ (Weak.ren (l0:= []) [0] (fun t=> [(4,.int (i+1)),(3,.int _),(2,.bool false),(1,.ref (t 0) 0)]) (fun t=> [.box [.e (.sl x)]]) rfl ⟨.inl rfl,.inl rfl,.inl rfl,.inl rfl,trivial⟩ ⟨rfl,trivial⟩ ⟨fun t=>rfl,rfl,fun t=>rfl,by simp [O.lt,lts,D.lt]⟩)
             omega)
          | (clear hK4;simp at *;omega)
          | (trace_state;fail)
  · have hd0:ts.drop i.toNat= []:=by rw [List.drop_eq_nil_iff];omega
    rw [hd0] at h3
    have h3:rows+0=sumC rlen ts:=h3
    have hr3:=d3 h50 fun j t ht=>h4 j t (by have:=(List.getElem?_eq_some_iff.1 ht).1;omega) ht
    clear hK h4 d1 d2 d3
    cbv
    repeat' first | with_reducible rfl | with_reducible refine And.intro ?_ ?_ | ((with_reducible intro hcc);first | (cases hcc;done) | skip) | ((with_reducible first | show goC _ _ _ _ _ _ _ _ | show goOps _ _ _ _ _ | show goD _ _ _ _ _ _);cbv) | ((with_reducible show okWr _ _=_);rfl) | (exfalso;simp only [hA.lt,hA.sub,decide_eq_true_eq,decide_eq_false_iff_not,n_cast] at *;omega) | ((with_reducible first | refine hA.fin_pl _ _ _ ?_ | refine hA.len _ _ _ _ _ fun z hz hb=>?_ | refine hA.off _ _ _ _ fun b hb=>?_ | refine hA.plus _ _ _ fun b hb=>?_ | refine hA.alt _ _ (Or.inl ?_) | refine hA.gb0 true _ ?_ | refine hA.gb0 false _ ?_ | refine hA.gb _ _ fun vb hvb=>?_);cbv) | ((with_reducible first | refine hA.st _ _ _ _ _ ⟨?_,fun ds hds=>?_⟩ | refine hA.sapp _ _ _ ⟨?_,fun sl hsl=>?_⟩);rotate_left;cbv) | (simp only [hA.lits];cbv)
    all_goals try simp only [hA.ar,inR,n_cast,Int.ofNat_eq_natCast,Option.getD_some,Option.getD_none] at *
    all_goals first
      | (rw [hr3,<-h3,Int.add_zero];done)
      | omega
      | (trace_state;fail))
end Go.Proofs.Ytfplalbognalkaa.Ab
/- Tables: valid, by the program. -/
namespace Go.Proofs.Ytfplalbognalkaa.Ab
open Go
theorem mlook_mset (l:List (List UInt8×E)) (k:List UInt8) (v:E) (n:List UInt8):mlook (mset l k v) n=if k=n then some v else mlook l n:=by
  induction l with
  | nil=>rfl
  | cons p l ih=>
    simp only [mset]
    by_cases h:p.1=k
    · rw [if_pos h]
      simp only [mlook]
      by_cases h2:k=n
      · rw [if_pos h2,if_pos h2]
      · rw [if_neg h2,if_neg h2,if_neg (by rw [h];exact h2)]
    · rw [if_neg h]
      simp only [mlook]
      by_cases h3:p.1=n
      · rw [if_pos h3,if_pos h3,if_neg (fun e=>h (h3.trans e.symm))]
      · rw [if_neg h3,if_neg h3,ih]
set_option maxRecDepth 100000 in
set_option maxHeartbeats 2000000 in
theorem ok135 (ts:List Tb) (x:List (List E)) (hx:x=ts.map tbr) (hsz:cTS ts<=1048576):Plain Try.prog 135 [.agg [.e (.sl x)]] (.bool (dbOk ts)):=okOf mixed p135 fun A P hA hP=>(by
  have hl:x.length=ts.length:=by rw [hx];simp
  obtain ⟨d1,d2,d3⟩:=dbF ts
  obtain ⟨r,hr⟩: ∃r,r=dbOk ts:=⟨_,rfl⟩
  rw [<-hr] at d1 d2 d3 ⊢
  clear hr
  cbv
  repeat' first | with_reducible rfl | with_reducible refine And.intro ?_ ?_ | ((with_reducible intro hcc);first | (cases hcc;done) | skip) | ((with_reducible first | show goC _ _ _ _ _ _ _ _ | show goOps _ _ _ _ _ | show goD _ _ _ _ _ _);cbv) | ((with_reducible show okWr _ _=_);rfl) | ((with_reducible first | refine hA.fin_pl _ _ _ ?_ | refine hA.len _ _ _ _ _ fun z hz hb=>?_ | refine hA.off _ _ _ _ fun b hb=>?_ | refine hA.plus _ _ _ fun b hb=>?_ | refine hA.alt _ _ (Or.inl ?_) | refine hA.gb0 true _ ?_ | refine hA.gb0 false _ ?_ | refine hA.gb _ _ fun vb hvb=>?_ | refine hA.mset _ _ _ _ fun ml hml=>?_);cbv) | ((with_reducible first | refine hA.st _ _ _ _ _ ⟨?_,fun ds hds=>?_⟩ | refine hA.sapp _ _ _ ⟨?_,fun sl hsl=>?_⟩);rotate_left;cbv) | ((with_reducible refine hA.mget _ _ _ _ ⟨fun mv hmv=>?_,fun hmv=>?_⟩) <;>cbv) | (simp only [hA.lits];cbv)
  all_goals try simp only [hA.ar,inR,n_cast,Int.ofNat_eq_natCast,Option.getD_some,Option.getD_none] at *
  all_goals try (first | (rw [d1 (by simp at *;omega)];done))
  have h50:ts.length<=50:=by clear d1 d2 d3;simp at *;omega
  have hrn:=sz_rows ts
  refine hA.loopI (fun m s=> ∃(i rows zz:Int) (ml:List (List UInt8×E)),0<=i/\zz=x.length/\m+i=zz/\0<=rows/\rows+sumC rlen (ts.drop i.toNat)=sumC rlen ts/\(∀(j:Nat) t,(j:Int)<i->ts[j]?=some t->good ts j t=true)/\
      (∀n,(∃v,mlook ml n=some v) ↔ ∃(j:Nat) (t:Tb),(j:Int)<i/\ts[j]?=some t/\t.1=n)/\
      s=⟨[(19,.int i),(18,.int zz),(17,.e (.sl x)),(4,.int rows),(3,.mp 1),(2,.bool false),(1,.ref 0 0)], [.box [.e (.sl x)],.smap ml]⟩) x.length _
    (Weak.keep (env':= [(19,.int 0),(18,.int z),(17,.e (.sl x)),(4,.int 0),(3,.mp 1),(2,.bool false),(1,.ref 0 0)]) ⟨rfl,rfl,rfl,rfl,rfl,rfl,rfl,trivial⟩)
    ⟨0,0,z, [],by omega,by omega,by omega,by omega,(by simp),(fun j t hj=>by omega),(fun n=>⟨fun ⟨v,hv⟩=>(by simp [mlook] at hv),fun ⟨j,t,hj,_⟩=>(by omega)⟩),rfl⟩ ?_
  rintro m s K ⟨i,rows,zz,ml0,h0,hzz,h1,h2,h3,h4,h5,rfl⟩ hK
  by_cases hin:(0:Int)<=i/\i<x.length
  · obtain ⟨⟨n1,c1,rs1⟩,e1,q1⟩:=row_at hx hin
    obtain ⟨x1,hx1⟩: ∃y,y=rs1.map rsr:=⟨_,rfl⟩
    have e1:x.getD i.toNat []= [E.str n1,E.int c1,E.sl x1]:=e1.trans (by rw [hx1])
    have hl1:x1.length=rs1.length:=by rw [hx1];simp
    rw [sumC_drop q1] at h3
    have hS:=sumC_nonneg rlen_nonneg (ts.drop (i.toNat+1))
    have hrl:rlen (n1,c1,rs1)=x1.length:=by rw [hl1];rfl
    have hd:=d2 i.toNat _ q1
    have gi:=good_iff (ts:=ts) (i:=i.toNat) (n:=n1) (c:=c1) (rs:=rs1)
    obtain ⟨g,hg⟩: ∃g,g=good ts i.toNat (n1,c1,rs1):=⟨_,rfl⟩
    rw [<-hg] at hd gi
    obtain ⟨nb,hnb⟩: ∃b,b=nameB n1:=⟨_,rfl⟩
    have hfr:=(fidx_at ts i.toNat (n1,c1,rs1) 0 q1).2
    rw [Int.zero_add] at hfr
    have hfr:fidx ts n1= ↑i.toNat ↔ mlook ml0 n1=none:=by
      rw [show fidx ts n1=fidxN ts n1 0 from rfl,hfr]
      constructor
      · intro q
        cases hm:mlook ml0 n1 with
        | none=>rfl
        | some v=>
          obtain ⟨j,t,hj,ht,e⟩:=(h5 n1).1 ⟨v,hm⟩
          exact absurd e (q j t (by omega) ht)
      · intro q j t' hj ht e
        obtain ⟨v,hv⟩:=(h5 n1).2 ⟨j,t',by omega,ht,e⟩
        rw [q] at hv;cases hv
    rw [<-hnb,hfr] at gi
    have h66:=ok119 n1
    rw [<-hnb] at h66
    have e8:(i+1).toNat=i.toNat+1:=by omega
    have hK2:(g=true)-> ∀(w:Int) (ml:List (List UInt8×E)),w=rows+x1.length->ml=mset ml0 n1 (E.int i)-> ∀s1,Weak (hpF []) s1 ⟨[(19,.int (i+1)),(18,.int zz),(17,.e (.sl x)),(4,.int w),(3,.mp 1),(2,.bool false),(1,.ref 0 0)], [.box [.e (.sl x)],.smap ml]⟩->K s1:=fun e w ml hww hml s1 hw=>by
      refine hK s1 (m-1) _ (by omega) hw ⟨i+1,_,zz,ml,by omega,hzz,by omega,by omega,by rw [e8];omega,fun j t hj ht=>?_,fun n=>?_,rfl⟩
      · by_cases hji:(j:Int)<i
        · exact h4 j t hji ht
        · have:j=i.toNat:=by omega
          subst this
          rw [q1] at ht
          cases ht
          rw [<-hg];exact e
      · rw [hml,mlook_mset]
        by_cases hn:n1=n
        · rw [if_pos hn]
          exact ⟨fun _=>⟨i.toNat,_,by omega,q1,hn⟩,fun _=>⟨_,rfl⟩⟩
        · rw [if_neg hn,h5 n]
          constructor
          · rintro ⟨j,t,a,b,c⟩;exact ⟨j,t,by omega,b,c⟩
          · rintro ⟨j,t,a,b,c⟩
            refine ⟨j,t,?_,b,c⟩
            by_cases hji:(j:Int)<i
            · exact hji
            · have:j=i.toNat:=by omega
              subst this
              rw [q1] at b
              cases b
              exact absurd c hn
    clear hK h4 h5 hnb hfr hg d1 d2 d3
    cbv
    repeat' first | with_reducible rfl | with_reducible refine And.intro ?_ ?_ | ((with_reducible intro hcc);first | (cases hcc;done) | skip) | ((with_reducible first | show goC _ _ _ _ _ _ _ _ | show goOps _ _ _ _ _ | show goD _ _ _ _ _ _);cbv) | ((with_reducible show okWr _ _=_);rfl) | ((with_reducible first | refine callK_f hA hP h66 ?_ ?_ ?_);exact rfl;exact rfl;cbv) | ((with_reducible refine hA.row x _ _ ⟨hin,fun row hrow=>?_⟩);rw [e1] at hrow;subst hrow;cbv) | ((with_reducible first | refine hA.fin_pl _ _ _ ?_ | refine hA.len _ _ _ _ _ fun z hz hb=>?_ | refine hA.off _ _ _ _ fun b hb=>?_ | refine hA.plus _ _ _ fun b hb=>?_ | refine hA.alt _ _ (Or.inl ?_) | refine hA.gb0 true _ ?_ | refine hA.gb0 false _ ?_ | refine hA.gb _ _ fun vb hvb=>?_ | refine hA.mset _ _ _ _ fun ml hml=>?_);cbv) | ((with_reducible first | refine hA.st _ _ _ _ _ ⟨?_,fun ds hds=>?_⟩ | refine hA.sapp _ _ _ ⟨?_,fun sl hsl=>?_⟩);rotate_left;cbv) | ((with_reducible refine hA.mget _ _ _ _ ⟨fun mv hmv=>?_,fun hmv=>?_⟩) <;>cbv) | (simp only [hA.lits];cbv)
    all_goals try simp only [hA.ar,inR,n_cast,Int.ofNat_eq_natCast,Option.getD_some,Option.getD_none] at *
    all_goals try (first
      | omega
      | (clear hK2 hd gi h66;simp at *;omega)
      | (clear hK2 hd gi h66;grind;done))
    all_goals try (
      have hf:g=false:=(by
        rw [Bool.eq_false_iff]
        intro q
        obtain ⟨a1,a2,a3,_⟩:=gi.1 q
        clear hK2 hd gi h66
        first
          | (rw [a3] at hmv;cases hmv;done)
          | (grind;done)
          | (simp at *;done)
          | (simp at *;grind;done))
      rw [hd hf]
      done)
    have hpre:g=true ↔ ∀r∈rs1,(r.length:Int)=c1:=by
      rw [gi]
      have:nb=true/\(1<=c1/\c1<=16):=by
        clear hK2 hd gi h66
        simp at *
        grind
      exact ⟨fun q=>q.2.2.2,fun q=>⟨this.1,this.2,hmv,q⟩⟩
    clear gi h66
    refine hA.loopI (fun mm s=> ∃jj zj w:Int,0<=jj/\zj=x1.length/\mm+jj=zj/\w=rows+x1.length/\(∀(k:Nat) r',(k:Int)<jj->rs1[k]?=some r'->(r'.length:Int)=c1)/\
        s=⟨[(60,.int jj),(59,.int zj),(58,.e (.sl x1)),(6,.ref 2 0),(19,.int i),(18,.int zz),(17,.e (.sl x)),(4,.int w),(3,.mp 1),(2,.bool false),(1,.ref 0 0)],
          [.box [.e (.sl x)],.smap ml,.box [.str n1,.int c1,.e (.sl x1)]]⟩) x1.length _
      (Weak.keep (env':= [(60,.int 0),(59,.int _),(58,.e (.sl x1)),(6,.ref 2 0),(19,.int i),(18,.int zz),(17,.e (.sl x)),(4,.int (rows+_)),(3,.mp 1),(2,.bool false),(1,.ref 0 0)]) ⟨rfl,rfl,rfl,rfl,rfl,rfl,rfl,rfl,rfl,rfl,rfl,trivial⟩)
      ⟨0,_,_,by omega,?_,?_,?_,(fun k r' hk=>by omega),rfl⟩ ?_
    · omega
    · omega
    · omega
    rintro mm s K3 ⟨jj,zj,w,j0,jz,j1,jw,j2,rfl⟩ hK3
    by_cases hjn:(0:Int)<=jj/\jj<x1.length
    · obtain ⟨r1,e2,q2⟩:=row_at hx1 hjn
      obtain ⟨y1,hy1⟩: ∃y,y=r1.map vr:=⟨_,rfl⟩
      have e2:x1.getD jj.toNat []= [E.sl y1]:=e2.trans (by rw [hy1])
      have hly:y1.length=r1.length:=by rw [hy1];simp
      have k1: ¬(r1.length:Int)=c1->r=false:=fun q=>hd (by
        rw [Bool.eq_false_iff]
        intro q'
        exact q (hpre.1 q' r1 (List.mem_of_getElem? q2)))
      have k2:(r1.length:Int)=c1-> ∀s1,Weak (hpF []) s1 ⟨[(60,.int (jj+1)),(59,.int zj),(58,.e (.sl x1)),(6,.ref 2 0),(19,.int i),(18,.int zz),(17,.e (.sl x)),(4,.int w),(3,.mp 1),(2,.bool false),(1,.ref 0 0)],
          [.box [.e (.sl x)],.smap ml,.box [.str n1,.int c1,.e (.sl x1)]]⟩->K3 s1:=fun q s1 hw=>by
        refine hK3 s1 (mm-1) _ (by omega) hw ⟨jj+1,zj,w,by omega,jz,by omega,jw,fun k r' hk hr'=>?_,rfl⟩
        by_cases hkj:(k:Int)<jj
        · exact j2 k r' hkj hr'
        · have:k=jj.toNat:=by omega
          subst this
          rw [q2] at hr'
          cases hr'
          exact q
      clear hK3 hK2 hd hpre j2
      cbv
      repeat' first | with_reducible rfl | with_reducible refine And.intro ?_ ?_ | ((with_reducible intro hcc);first | (cases hcc;done) | skip) | ((with_reducible first | show goC _ _ _ _ _ _ _ _ | show goOps _ _ _ _ _ | show goD _ _ _ _ _ _);cbv) | ((with_reducible show okWr _ _=_);rfl) | ((with_reducible refine hA.row x1 _ _ ⟨hjn,fun row hrow=>?_⟩);rw [e2] at hrow;subst hrow;cbv) | ((with_reducible first | refine hA.fin_pl _ _ _ ?_ | refine hA.len _ _ _ _ _ fun z hz hb=>?_ | refine hA.off _ _ _ _ fun b hb=>?_ | refine hA.plus _ _ _ fun b hb=>?_ | refine hA.alt _ _ (Or.inl ?_) | refine hA.gb0 true _ ?_ | refine hA.gb0 false _ ?_ | refine hA.gb _ _ fun vb hvb=>?_ | refine hA.mset _ _ _ _ fun ml hml=>?_);cbv) | ((with_reducible first | refine hA.st _ _ _ _ _ ⟨?_,fun ds hds=>?_⟩ | refine hA.sapp _ _ _ ⟨?_,fun sl hsl=>?_⟩);rotate_left;cbv) | ((with_reducible refine hA.mget _ _ _ _ ⟨fun mv hmv=>?_,fun hmv=>?_⟩) <;>cbv) | (simp only [hA.lits];cbv)
      all_goals try simp only [hA.ar,inR,n_cast,Int.ofNat_eq_natCast,Option.getD_some,Option.getD_none] at *
      all_goals first
        | omega
        | (rw [k1 (by clear k1 k2 hx hx1 e1 e2 hy1 hml hmv;grind)];done)
        | (exact k2 (by clear k1 k2 hx hx1 e1 e2 hy1 hml hmv;grind) _ (Weak.keep ⟨rfl,rfl,rfl,rfl,rfl,rfl,rfl,rfl,rfl,rfl,rfl,trivial⟩))
        | (clear k1 k2 hml hmv;simp at *;omega)
        | (clear k1 k2 hml hmv;grind;done)
        | (trace_state;fail)
    · have hgt:g=true:=hpre.2 fun r' hr'=>by
        obtain ⟨k,hk,e⟩:=List.getElem_of_mem hr'
        exact j2 k r' (by omega) (by rw [<-e];simp [hk])
      have hK4:=hK2 hgt
      clear hK3 hK2 hd hpre j2
      cbv
      repeat' first | with_reducible rfl | with_reducible refine And.intro ?_ ?_ | ((with_reducible intro hcc);first | (cases hcc;done) | skip) | ((with_reducible first | show goC _ _ _ _ _ _ _ _ | show goOps _ _ _ _ _ | show goD _ _ _ _ _ _);cbv) | ((with_reducible show okWr _ _=_);rfl) | (exfalso;simp only [hA.lt,hA.sub,decide_eq_true_eq,decide_eq_false_iff_not,n_cast] at *;omega) | ((with_reducible first | refine hA.fin_pl _ _ _ ?_ | refine hA.len _ _ _ _ _ fun z hz hb=>?_ | refine hA.off _ _ _ _ fun b hb=>?_ | refine hA.plus _ _ _ fun b hb=>?_ | refine hA.alt _ _ (Or.inl ?_) | refine hA.gb0 true _ ?_ | refine hA.gb0 false _ ?_ | refine hA.gb _ _ fun vb hvb=>?_ | refine hA.mset _ _ _ _ fun ml hml=>?_);cbv) | ((with_reducible first | refine hA.st _ _ _ _ _ ⟨?_,fun ds hds=>?_⟩ | refine hA.sapp _ _ _ ⟨?_,fun sl hsl=>?_⟩);rotate_left;cbv) | ((with_reducible refine hA.mget _ _ _ _ ⟨fun mv hmv=>?_,fun hmv=>?_⟩) <;>cbv) | (simp only [hA.lits];cbv)
      all_goals try simp only [hA.ar,inR,n_cast,Int.ofNat_eq_natCast,Option.getD_some,Option.getD_none] at *
      all_goals first
        | omega
        | (refine hK4 w ml jw hml _ (Weak.ren (l0:= []) [0,1] (fun t=> [(19,.int (i+1)),(18,.int zz),(17,.e (.sl x)),(4,.int w),(3,.mp (t 1)),(2,.bool false),(1,.ref (t 0) 0)]) (fun t=> [.box [.e (.sl x)],.smap ml]) rfl ⟨.inl rfl,.inl rfl,.inl rfl,.inl rfl,.inl rfl,.inl rfl,.inl rfl,trivial⟩ ⟨rfl,rfl,trivial⟩ ⟨fun t=>rfl,rfl,fun t=>rfl,by simp [O.lt,lts,D.lt]⟩))
        | (clear hK4 hml hmv;simp at *;omega)
        | (trace_state;fail)
  · have hd0:ts.drop i.toNat= []:=by rw [List.drop_eq_nil_iff];omega
    rw [hd0] at h3
    have h3:rows+0=sumC rlen ts:=h3
    have hr3:=d3 h50 fun j t ht=>h4 j t (by have:=(List.getElem?_eq_some_iff.1 ht).1;omega) ht
    clear hK h4 h5 d1 d2 d3
    cbv
    repeat' first | with_reducible rfl | with_reducible refine And.intro ?_ ?_ | ((with_reducible intro hcc);first | (cases hcc;done) | skip) | ((with_reducible first | show goC _ _ _ _ _ _ _ _ | show goOps _ _ _ _ _ | show goD _ _ _ _ _ _);cbv) | ((with_reducible show okWr _ _=_);rfl) | (exfalso;simp only [hA.lt,hA.sub,decide_eq_true_eq,decide_eq_false_iff_not,n_cast] at *;omega) | ((with_reducible first | refine hA.fin_pl _ _ _ ?_ | refine hA.len _ _ _ _ _ fun z hz hb=>?_ | refine hA.off _ _ _ _ fun b hb=>?_ | refine hA.plus _ _ _ fun b hb=>?_ | refine hA.alt _ _ (Or.inl ?_) | refine hA.gb0 true _ ?_ | refine hA.gb0 false _ ?_ | refine hA.gb _ _ fun vb hvb=>?_ | refine hA.mset _ _ _ _ fun ml hml=>?_);cbv) | ((with_reducible first | refine hA.st _ _ _ _ _ ⟨?_,fun ds hds=>?_⟩ | refine hA.sapp _ _ _ ⟨?_,fun sl hsl=>?_⟩);rotate_left;cbv) | ((with_reducible refine hA.mget _ _ _ _ ⟨fun mv hmv=>?_,fun hmv=>?_⟩) <;>cbv) | (simp only [hA.lits];cbv)
    all_goals try simp only [hA.ar,inR,n_cast,Int.ofNat_eq_natCast,Option.getD_some,Option.getD_none] at *
    all_goals first
      | (rw [hr3,<-h3,Int.add_zero];done)
      | omega
      | (trace_state;fail))
end Go.Proofs.Ytfplalbognalkaa.Ab
