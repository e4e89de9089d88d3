/- Flat plans: which are valid, as the program and as the specification say it; that both say the same. -/
import Derived.Test.YtfplalbognalkaaMFnExactSimplify2
set_option linter.unusedSimpArgs false
set_option linter.unusedVariables false
set_option linter.unnecessarySimpa false
set_option linter.constructorNameAsVariable false
namespace Go.Proofs.Ytfplalbognalkaa.Ab
open Go
structure Fd where
  K:Int
  T:Int
  M:Int
  W:Int
  Ex:List (Int×Int)
  Exs:List (List (Int×Int))
  L:Int
  R:Int
  deriving DecidableEq,Inhabited
abbrev orr (r:List (Int×Int)):List E:= [E.sl (r.map orow)]
abbrev fdr (d:Fd):List E:= [E.int d.K,E.int d.T,E.int d.M,E.int d.W,E.sl (d.Ex.map orow),E.sl (d.Exs.map orr),E.int d.L,E.int d.R]
def two (k:Int):Bool:=decide (k=5\/k=6\/k=7\/k=9\/k=10\/k=11)
def one (k:Int):Bool:=two k || decide (k=3\/k=4\/k=8)
def mat (k:Int):Bool:=two k&&decide (k≠9)
def usS (k m:Int):Bool:=decide (k=3\/k=6\/k=10\/k=11\/(k=7/\m≠1))
def plc (on:Bool) (p i:Int):Bool:=if on then decide (0<=p/\p<i) else decide (p=0)
def fldS (d:Fd) (i nt:Int):Bool:=
  decide (1<=d.K/\d.K<=11)&&((if d.K=2 then decide (0<=d.T/\d.T<nt) else decide (d.T=0))&&((if d.K=7 then decide (1<=d.M/\d.M<=4) else decide (d.M=0))&&
  (plc (one d.K) d.L i&&(plc (two d.K) d.R i&&((mat d.K || decide (d.W=0))&&((usS d.K d.M || decide (d.Ex= []))&&(decide (d.K=4) || decide (d.Exs= []))))))))
def widS (d:Fd) (cols:Int->Int) (l r:Int):Int:=
  if d.K=1 then 0 else if d.K=2 then cols d.T else if mat d.K=true/\(d.W<0\/d.W>l\/d.W>r) then-1
  else if usS d.K d.M=true/\exOk d.Ex (if d.K=3 then l else r)=false then-1
  else if (d.Exs.all fun e=>exOk e l)=false then-1
  else if d.K=4 then d.Exs.length else if d.K=5 then l+r-d.W else if d.K=6\/d.K=7 then l+1 else if d.K=9/\l≠r then-1 else l
def at0 (on:Bool) (ws:List Int) (p:Int):Int:=if on then ws.getD p.toNat 0 else 0
def stS (nt:Int) (cols:Int->Int) (ws:List Int) (d:Fd):Option Int:=
  if fldS d ws.length nt=true then
    let w:=widS d cols (at0 (one d.K) ws d.L) (at0 (two d.K) ws d.R)
    if w<0\/w>200 then none else some w
  else none
def lef (k:Int):Bool:=decide (3<=k/\k<=11)
def rig (k:Int):Bool:=decide (5<=k/\k<=7) || decide (9<=k/\k<=11)
def mtc (k:Int):Bool:=decide (5<=k/\k<=7) || (decide (k=10) || decide (k=11))
def usI (k m:Int):Bool:=decide (k=3) || (decide (k=6) || (decide (k=10) || (decide (k=11) || (decide (k=7)&&decide (1<m)))))
def fldI (d:Fd) (i:Int):Bool:=
  decide (1<=d.K/\d.K<=11)&&(plc (lef d.K) d.L i&&(plc (rig d.K) d.R i&&((decide (d.K=2) || decide (d.T=0))&&((decide (d.K=7) || decide (d.M=0))&&((mtc d.K || decide (d.W=0))&&
  ((!decide (d.K=7) || decide (1<=d.M/\d.M<=4))&&((usI d.K d.M || decide (d.Ex= []))&&(decide (d.K=4) || decide (d.Exs= [])))))))))
def widI (d:Fd) (nt:Int) (cols:Int->Int) (l r:Int):Int:=
  if mtc d.K=true/\(d.W<0\/d.W>min l r) then-1
  else if usI d.K d.M=true/\exOk d.Ex (if d.K=3 then l else r)=false then-1
  else if d.K=2/\(d.T<0\/nt<=d.T) then-1
  else if d.K=4/\(d.Exs.all fun e=>exOk e l)=false then-1
  else if d.K=9/\l≠r then-1
  else
    let w:=if d.K=2 then cols d.T else if d.K=4 then (d.Exs.length:Int) else if d.K=5 then l+r-d.W else if d.K=6\/d.K=7 then l+1 else l
    if w>200 then-1 else w
def stI (nt:Int) (cols:Int->Int) (ws:List Int) (d:Fd):Option Int:=
  if fldI d ws.length=true then
    let w:=widI d nt cols (at0 (lef d.K) ws d.L) (at0 (rig d.K) ws d.R)
    if w<0 then none else some w
  else none
theorem two_rig {k:Int} :rig k=two k:=by unfold rig two;rw [Bool.eq_iff_iff];simp;omega
theorem one_lef {k:Int} :lef k=one k:=by rw [one,<-two_rig,rig,lef,Bool.eq_iff_iff];simp;omega
theorem mat_mtc {k:Int} :mtc k=mat k:=by rw [mat,<-two_rig,rig,mtc,Bool.eq_iff_iff];simp;omega
theorem us_us {k m:Int} (h:k=7->1<=m):usI k m=usS k m:=by unfold usI usS;rw [Bool.eq_iff_iff];simp;omega
theorem st_eqF (nt:Int) (cols:Int->Int) (ws:List Int) (d:Fd):stI nt cols ws d=stS nt cols ws d:=by
  obtain ⟨K,T,M,W,Ex,Exs,L,R⟩:=d
  unfold stI stS fldI fldS
  simp only [two_rig,one_lef,mat_mtc]
  by_cases hM:K=7/\ ¬(1<=M/\M<=4)
  · simp [hM.1,hM.2]
  · have hu:usI K M=usS K M:=us_us fun h=>by omega
    unfold widI widS
    simp only [hu,mat_mtc]
    obtain ⟨l,hl⟩: ∃l,l=at0 (one K) ws L:=⟨_,rfl⟩
    obtain ⟨r,hr⟩: ∃l,l=at0 (two K) ws R:=⟨_,rfl⟩
    rw [<-hl,<-hr]
    have hl0:one K=false->l=0:=fun h=>by rw [hl,h];rfl
    obtain ⟨x1,hx1⟩: ∃x,x=plc (one K) L ws.length:=⟨_,rfl⟩
    obtain ⟨x2,hx2⟩: ∃x,x=plc (two K) R ws.length:=⟨_,rfl⟩
    rw [<-hx1,<-hx2]
    obtain ⟨x3,hx3⟩: ∃x,x=exOk Ex (if K=3 then l else r):=⟨_,rfl⟩
    obtain ⟨x4,hx4⟩: ∃x,x=Exs.all fun e=>exOk e l:=⟨_,rfl⟩
    have h4:Exs= []->x4=true:=fun h=>by rw [hx4,h];rfl
    rw [<-hx3,<-hx4]
    clear hx1 hx2 hx3 hx4 hl hr hu
    have hK:K=1\/K=2\/K=3\/K=4\/K=5\/K=6\/K=7\/K=8\/K=9\/K=10\/K=11\/ ¬(1<=K/\K<=11):=by omega
    rcases hK with rfl | rfl | rfl | rfl | rfl | rfl | rfl | rfl | rfl | rfl | rfl | hK
    case inr.inr.inr.inr.inr.inr.inr.inr.inr.inr.inr=>simp [hK]
    all_goals simp [one,two,mat,usS] at hl0 ⊢
    all_goals first | grind | (trace_state;fail)
end Go.Proofs.Ytfplalbognalkaa.Ab
/- Simplified flat plans: as the specification and as the program says it; that both say the same. -/
namespace Go.Proofs.Ytfplalbognalkaa.Ab
open Go
def colE (i:Nat):List (Int×Int):= [(3,(i:Int))]
def colsE (w:Int):List (List (Int×Int)):=(List.range w.toNat).map colE
def mapX (w a:Int):List (List (Int×Int)):=colsE (w-1)++ [[(1,2-a)]]
def mapN (d:Fd) (w a:Int):Fd:=⟨4,0,0,0, [],mapX w a,d.L,0⟩
def nodeAt (ns:List Fd) (i:Int):Fd:=ns.getD i.toNat default
def cuS (i:Int) (d:Fd):Int:=if (one d.K=true/\d.L=i)\/(two d.K=true/\d.R=i) then 1 else 0
def usrs (i:Int):List Fd->Int
  | []=>0
  | d::r=>cuS i d+usrs i r
def cuI (i:Int) (d:Fd):Int:=(if lef d.K=true/\d.L=i then 1 else 0)+(if rig d.K=true/\d.R=i then 1 else 0)
def uses (i:Int):List Fd->Int
  | []=>0
  | d::r=>cuI i d+uses i r
def exAsk (ex:List (Int×Int)) (m:Int):Int:=match ex with
  | [p]=>if p.1=3/\p.2=m then 1 else 0
  | [p,q]=>if (p.1=3/\p.2=m)/\q.1=7 then 2 else 0
  | _=>0
def exAskI (ex:List (Int×Int)) (m:Int):Int:=match ex with
  | [p]=>if p.1=3/\p.2=m then 1 else 0
  | [p,q]=>if (p.1=3/\p.2=m)/\(q.1=7/\q.2=0) then 2 else 0
  | _=>0
def askS (ns:List Fd) (w:Int->Int) (rt:Int) (d:Fd):Int:=if d.K≠3\/(nodeAt ns d.L).K≠6\/d.L=rt\/usrs d.L ns≠1 then 0 else exAsk d.Ex (w d.L-1)
def askI (ns:List Fd) (w:Int->Int) (rt:Int) (d:Fd):Int:=if d.K≠3\/(nodeAt ns d.L).K≠6\/(if rt=d.L then 1 else 0)+uses d.L ns≠1 then 0 else exAskI d.Ex (w d.L-1)
theorem usrs_app (i:Int): ∀a b:List Fd,usrs i (a++b)=usrs i a+usrs i b
  | [],b=>by simp [usrs]
  | d::a,b=>by simp only [List.cons_append,usrs,usrs_app i a b];omega
theorem uses_app (i:Int): ∀a b:List Fd,uses i (a++b)=uses i a+uses i b
  | [],b=>by simp [uses]
  | d::a,b=>by simp only [List.cons_append,uses,uses_app i a b];omega
theorem cuI_cuS (i:Int) (d:Fd):0<=cuS i d/\cuS i d<=cuI i d/\cuI i d<=2 * cuS i d:=by
  unfold cuI cuS
  rw [one_lef,two_rig]
  by_cases h1:one d.K=true/\d.L=i <;>by_cases h2:two d.K=true/\d.R=i <;>simp [h1,h2]
theorem uses_usrs (i:Int): ∀l:List Fd,0<=usrs i l/\usrs i l<=uses i l/\uses i l<=2 * usrs i l
  | []=>by simp [usrs,uses]
  | d::l=>by
    have:=cuI_cuS i d
    have:=uses_usrs i l
    simp only [usrs,uses]
    omega
theorem exAsk_bnd (ex:List (Int×Int)) (m:Int):0<=exAsk ex m/\exAsk ex m<=2:=by
  unfold exAsk
  split
  · split <;>omega
  · split <;>omega
  · omega
theorem askS_bnd (ns:List Fd) (w:Int->Int) (rt:Int) (d:Fd):0<=askS ns w rt d/\askS ns w rt d<=2:=by
  unfold askS
  split
  · omega
  · exact exAsk_bnd _ _
theorem askS_pos {ns:List Fd} {w:Int->Int} {rt:Int} {d:Fd} (h:0<askS ns w rt d):d.K=3/\(nodeAt ns d.L).K=6/\d.L≠rt/\usrs d.L ns=1/\askS ns w rt d=exAsk d.Ex (w d.L-1):=by
  unfold askS at h ⊢
  split at h
  · omega
  · rename_i c
    rw [if_neg c]
    simp only [not_or,Decidable.not_not] at c
    exact ⟨c.1,c.2.1,c.2.2.1,c.2.2.2,rfl⟩
theorem ask_eq {ns:List Fd} {w:Int->Int} {rt:Int} {d:Fd} (hd:d∈ns) (hx:d.K=3-> ∃c,exOk d.Ex c=true):askI ns w rt d=askS ns w rt d:=by
  by_cases hk:d.K=3
  · obtain ⟨a,b,rfl⟩:=List.mem_iff_append.1 hd
    have e1:cuS d.L d=1:=by unfold cuS;rw [if_pos (.inl ⟨by rw [hk];rfl,rfl⟩)]
    have e2:cuI d.L d=1:=by
      unfold cuI
      rw [one_lef,two_rig,if_pos ⟨by rw [hk];rfl,rfl⟩,if_neg (fun h=>by rw [hk] at h;exact absurd h.1 (by decide))]
      rfl
    have h1:=uses_usrs d.L a
    have h2:=uses_usrs d.L b
    have h3:(if rt=d.L then (1:Int) else 0)+uses d.L (a++d::b)=1 ↔ (d.L≠rt/\usrs d.L (a++d::b)=1):=by
      rw [uses_app,usrs_app]
      simp only [uses,usrs,e1,e2]
      split <;>omega
    have hxx:exAskI d.Ex (w d.L-1)=exAsk d.Ex (w d.L-1):=by
      obtain ⟨c,hc⟩:=hx hk
      unfold exAskI exAsk
      generalize d.Ex=ex at hc ⊢
      match ex with
      | []=>rfl
      | [p]=>rfl
      | [p,q]=>
        have:q.1=7->q.2=0:=fun h=>by
          rw [exOk_fw] at hc
          obtain ⟨_,_,hc⟩:=of_decide_eq_true hc
          simp only [fw] at hc
          split at hc
          · omega
          · split at hc
            · omega
            · rename_i h9
              have ht:0<=takes q c:=by omega
              unfold takes at ht
              rw [h] at ht
              by_cases h0:q.2=0
              · exact h0
              · simp [h0] at ht
        simp only
        by_cases h7:q.1=7
        · simp [h7,this h7]
        · simp [h7]
      | _::_::_::_=>rfl
    unfold askI askS
    rw [hxx]
    by_cases c1:(nodeAt (a++d::b) d.L).K=6
    · by_cases c2:d.L≠rt/\usrs d.L (a++d::b)=1
      · rw [if_neg (by simp only [not_or,Decidable.not_not];exact ⟨hk,c1,h3.2 c2⟩),if_neg (by simp only [not_or,Decidable.not_not];exact ⟨hk,c1,c2.1,c2.2⟩)]
      · rw [if_pos (.inr (.inr fun e=>c2 (h3.1 e))),if_pos]
        by_cases c3:d.L=rt
        · exact .inr (.inr (.inl c3))
        · exact .inr (.inr (.inr fun e=>c2 ⟨c3,e⟩))
    · rw [if_pos (.inr (.inl c1)),if_pos (.inr (.inl c1))]
  · unfold askI askS
    rw [if_pos (.inl hk),if_pos (.inl hk)]
def kf (ask:Fd->Int) (i:Int):Int->List Fd->Int
  | K, []=>K
  | K,d::r=>kf ask i (if d.L=i/\0<ask d then 10+ask d-1 else K) r
theorem kf_app (ask:Fd->Int) (i:Int): ∀(K:Int) (a b:List Fd),kf ask i K (a++b)=kf ask i (kf ask i K a) b
  | _, [],_=>rfl
  | K,d::a,b=>by simp only [List.cons_append,kf,kf_app ask i _ a b]
theorem kf_none {ask:Fd->Int} {i:Int} : ∀ {K:Int} {l:List Fd},(∀e∈l,¬(e.L=i/\0<ask e))->kf ask i K l=K
  | _, [],_=>rfl
  | K,d::l,h=>by
    rw [kf,if_neg (h d (by simp))]
    exact kf_none fun e he=>h e (by simp [he])
def baseS (ask:Fd->Int) (w:Int->Int) (d:Fd):Fd:=if 0<ask d then mapN d (w d.L) (ask d) else d
def nodS (ask:Fd->Int) (w:Int->Int) (ns:List Fd) (i:Nat) (d:Fd):Fd:= {baseS ask w d with K:=kf ask i (baseS ask w d).K (ns.drop (i+1))}
def simS (ask:Fd->Int) (w:Int->Int) (ns:List Fd):List Fd:=ns.mapIdx (nodS ask w ns)
def stepI (ask:Fd->Int) (w:Int->Int) (out:List Fd) (j:Nat) (d:Fd):List Fd:=
  if 0<ask d then (out.set d.L.toNat {out.getD d.L.toNat default with K:=9+ask d}).set j (mapN d (w d.L) (ask d)) else out
def runI (ask:Fd->Int) (w:Int->Int):List Fd->Nat->List Fd->List Fd
  | out,_, []=>out
  | out,j,d::r=>runI ask w (stepI ask w out j d) (j+1) r
theorem runI_app (ask:Fd->Int) (w:Int->Int): ∀(out:List Fd) (j:Nat) (a b:List Fd),runI ask w out j (a++b)=runI ask w (runI ask w out j a) (j+a.length) b
  | _,_, [],_=>rfl
  | out,j,d::a,b=>by
    simp only [List.cons_append,runI,List.length_cons]
    rw [runI_app ask w _ _ a b]
    congr 1
    omega
def atJ (ask:Fd->Int) (w:Int->Int) (ns:List Fd) (j i:Nat) (d:Fd):Fd:=
  let b:=if i<j then baseS ask w d else d
  {b with K:=kf ask i b.K (ns.take j)}
theorem stepI_len (ask:Fd->Int) (w:Int->Int) (out:List Fd) (j:Nat) (d:Fd):(stepI ask w out j d).length=out.length:=by
  unfold stepI
  split
  · simp
  · rfl
theorem runI_at {ask:Fd->Int} {w:Int->Int} {ns:List Fd} (H: ∀(j:Nat) d,ns[j]?=some d->0<ask d->0<=d.L/\d.L<j): ∀j,j<=ns.length->(runI ask w ns 0 (ns.take j)).length=ns.length/\ ∀(i:Nat) d,ns[i]?=some d->(runI ask w ns 0 (ns.take j))[i]?=some (atJ ask w ns j i d)
  | 0,_=>by
    refine ⟨rfl,fun i d h=>?_⟩
    simp only [List.take_zero,runI,atJ,Nat.not_lt_zero,if_false,kf]
    exact h
  | j+1,hj=>by
    obtain ⟨h1,h2⟩:=runI_at H j (by omega)
    obtain ⟨e,he⟩: ∃e,ns[j]?=some e:=⟨_,List.getElem?_eq_getElem (by omega)⟩
    have et:ns.take (j+1)=ns.take j++ [e]:=by rw [List.take_add_one,he];rfl
    have er:runI ask w ns 0 (ns.take (j+1))=stepI ask w (runI ask w ns 0 (ns.take j)) j e:=by
      rw [et,runI_app,List.length_take,Nat.min_eq_left (by omega),Nat.zero_add]
      rfl
    rw [er]
    refine ⟨by rw [stepI_len];exact h1,fun i d hi=>?_⟩
    have hil:i<ns.length:=(List.getElem?_eq_some_iff.1 hi).1
    have none: ∀i:Nat,j<=i-> ∀x∈ns.take (j+1),¬(x.L=i/\0<ask x):=fun i hi x hx h=>by
      obtain ⟨q,hq⟩:=List.mem_iff_getElem?.1 hx
      have hql:q<(ns.take (j+1)).length:=(List.getElem?_eq_some_iff.1 hq).1
      rw [List.length_take] at hql
      rw [List.getElem?_take,if_pos (by omega)] at hq
      have:=H q x hq h.2
      omega
    unfold stepI
    by_cases ha:0<ask e
    · rw [if_pos ha]
      obtain ⟨l1,l2⟩:=H j e he ha
      by_cases ij:i=j
      · subst ij
        rw [he] at hi
        cases hi
        rw [List.getElem?_set_self (by rw [List.length_set,h1];exact hil)]
        unfold atJ
        simp only [Nat.lt_succ_self,if_true,baseS,if_pos ha]
        rw [kf_none (none i (Nat.le_refl _))]
      · rw [List.getElem?_set_ne (Ne.symm ij)]
        by_cases iL:i=e.L.toNat
        · subst iL
          rw [List.getElem?_set_self (by rw [h1];exact hil),List.getD,h2 _ d hi,Option.getD_some]
          have q1:e.L.toNat<j:=by omega
          have q2:e.L.toNat<j+1:=by omega
          unfold atJ
          simp only [q1,q2,if_true]
          rw [et,kf_app]
          simp only [kf]
          rw [if_pos ⟨by omega,ha⟩,show 10+ask e-1=9+ask e by omega]
        · rw [List.getElem?_set_ne (Ne.symm iL),h2 i d hi]
          have hlt:i<j+1 ↔ i<j:=by omega
          unfold atJ
          simp only [hlt]
          rw [et,kf_app]
          simp only [kf]
          rw [if_neg (show¬(e.L=(i:Int)/\0<ask e) from fun h=>iL (by omega))]
    · rw [if_neg ha,h2 i d hi]
      have hb:(if i<j+1 then baseS ask w d else d)=if i<j then baseS ask w d else d:=by
        by_cases ij:i=j
        · subst ij
          rw [he] at hi
          cases hi
          rw [if_pos (Nat.lt_succ_self _),if_neg (Nat.lt_irrefl _),baseS,if_neg ha]
        · have hlt:i<j+1 ↔ i<j:=by omega
          simp only [hlt]
      unfold atJ
      simp only [hb]
      rw [et,kf_app]
      simp only [kf]
      rw [if_neg (show¬(e.L=(i:Int)/\0<ask e) from fun h=>ha h.2)]
theorem run_sim {ask:Fd->Int} {w:Int->Int} {ns:List Fd} (H: ∀(j:Nat) d,ns[j]?=some d->0<ask d->0<=d.L/\d.L<j):runI ask w ns 0 ns=simS ask w ns:=by
  obtain ⟨h1,h2⟩:=runI_at (w:=w) H ns.length (Nat.le_refl _)
  rw [List.take_length] at h1 h2
  refine List.ext_getElem? fun i=>?_
  rw [simS,List.getElem?_mapIdx]
  by_cases hi:i<ns.length
  · rw [h2 i ns[i] (by simp [hi]),List.getElem?_eq_getElem hi,Option.map_some]
    congr 1
    unfold atJ nodS
    simp only [hi,if_true]
    have key: ∀K,kf ask i K ns=kf ask i K (ns.drop (i+1)):=fun K=>by
      have e:=kf_app ask i K (ns.take (i+1)) (ns.drop (i+1))
      rw [List.take_append_drop] at e
      rw [e,kf_none (l:=ns.take (i+1)) fun x hx h=>by
        obtain ⟨q,hq⟩:=List.mem_iff_getElem?.1 hx
        have hql:q<(ns.take (i+1)).length:=(List.getElem?_eq_some_iff.1 hq).1
        rw [List.length_take] at hql
        rw [List.getElem?_take,if_pos (by omega)] at hq
        have:=H q x hq h.2
        omega]
    rw [List.take_length,key]
  · rw [List.getElem?_eq_none (by omega),List.getElem?_eq_none (by omega)]
    rfl
end Go.Proofs.Ytfplalbognalkaa.Ab
/- Rows of values: compared. -/
namespace Go.Proofs.Ytfplalbognalkaa.Ab
open Go
def vcmp (p q:Bool×Int):Int:=if p.1=true/\q.1=true then 0 else if p.1=true then-1 else if q.1=true then 1 else if p.2<q.2 then-1 else if q.2<p.2 then 1 else 0
def rcmp:List (Bool×Int)->List (Bool×Int)->Int
  | [], []=>0
  | [],_::_=> -1
  | _::_, []=>1
  | p::l,q::m=>if vcmp p q≠0 then vcmp p q else rcmp l m
end Go.Proofs.Ytfplalbognalkaa.Ab
/- Rows of values: compared by the program. -/
namespace Go.Proofs.Ytfplalbognalkaa.Ab
open Go
end Go.Proofs.Ytfplalbognalkaa.Ab
/- The code of functions, in the small language. -/
namespace Go.Proofs.Ytfplalbognalkaa.Ab
open Go
end Go.Proofs.Ytfplalbognalkaa.Ab
/- Expressions: their values. -/
namespace Go.Proofs.Ytfplalbognalkaa.Ab
open Go
abbrev V:=Bool×Int
abbrev triV (k:Int):V:=(decide (k=1),if k=1 then 0 else k / 2)
def clean (p:V):V:=if p.1 then (true,0) else p
def leafV (o:Int×Int) (row:List V):V:=if o.1=1 then (false,o.2) else if o.1=2 then (true,0) else clean (row.getD o.2.toNat (false,0))
def unV (o:Int×Int) (b:V):V:=if o.1=7 then (b.1,if b.1=false/\b.2=0 then 1 else 0) else (false,if b.1 then 1 else 0)
def binV (o:Int×Int) (a b:V):V:=if o.1=4 then triV (cm o.2 a.1 a.2 b.1 b.2) else if o.1=5 then triV (min (tr a.1 a.2) (tr b.1 b.2)) else triV (max (tr a.1 a.2) (tr b.1 b.2))
inductive Seg (l:List (Int×Int)) (row:List V):Nat->Nat->V->Prop
  | leaf {e o} (h:l[e]?=some o) (ht:takes o row.length=0):Seg l row e (e+1) (leafV o row)
  | un {j e o b} (hb:Seg l row j e b) (h:l[e]?=some o) (ht:takes o row.length=1):Seg l row j (e+1) (unV o b)
  | bin {j m e o a b} (ha:Seg l row j m a) (hb:Seg l row m e b) (h:l[e]?=some o) (ht:takes o row.length=2):Seg l row j (e+1) (binV o a b)
theorem Seg.lt {l row j e v} (h:Seg l row j e v):j<e/\e<=l.length:=by
  induction h with
  | leaf h _=>exact ⟨by omega,(List.getElem?_eq_some_iff.1 h).1⟩
  | un _ h _ ih=>exact ⟨by omega,(List.getElem?_eq_some_iff.1 h).1⟩
  | bin _ _ h _ ih ih'=>exact ⟨by omega,(List.getElem?_eq_some_iff.1 h).1⟩
theorem back_succ {l:List (Int×Int)} {w:Int} {e:Nat} {o:Int×Int} (h:l[e]?=some o) (h0:0<=takes o w) {need:Int} (hn:1<=need):back l w (e+1) need=back l w e (need-1+takes o w):=by
  have e1:l.getD e (0,0)=o:=by simp [List.getD,h]
  rw [back,if_neg (by omega),e1,if_neg (by omega)]
theorem Seg.back {l row j e v} (h:Seg l row j e v): ∀need:Int,1<=need->back l row.length e need=Ab.back l row.length j (need-1):=by
  induction h with
  | leaf h ht=>intro need hn;rw [back_succ h (by omega) hn,ht,Int.add_zero]
  | un _ h ht ih=>
    intro need hn
    rw [back_succ h (by omega) hn,ht,show need-1+1=need by omega]
    exact ih need hn
  | bin _ _ h ht ih ih'=>
    intro need hn
    rw [back_succ h (by omega) hn,ht,show need-1+2=need+1 by omega,ih' (need+1) (by omega),show need+1-1=need by omega]
    exact ih need hn
def step (row:List V) (o:Int×Int) (st:List V):List V:=
  if takes o row.length=0 then leafV o row::st
  else if takes o row.length=1 then (match st with | b::r=>unV o b::r | _=> [])
  else (match st with | b::a::r=>binV o a b::r | _=> [])
end Go.Proofs.Ytfplalbognalkaa.Ab
/- Rows in order: the plain law of sorting. -/
namespace Go.Proofs.Ytfplalbognalkaa.Ab
open Go
abbrev Row:=List (Bool×Int)
theorem vcmp_neg (p q:Bool×Int):vcmp p q= -vcmp q p:=by
  obtain ⟨b,v⟩:=p
  obtain ⟨c,w⟩:=q
  unfold vcmp
  cases b <;>cases c <;>simp <;>(repeat' split) <;>omega
theorem vcmp_lt {p q u:Bool×Int} (h1:vcmp p q<=0) (h2:vcmp q u<=0):vcmp p u<=0/\(vcmp p u=0->vcmp p q=0/\vcmp q u=0)/\(vcmp p q=0->vcmp q u=0->vcmp p u=0):=by
  obtain ⟨b,v⟩:=p
  obtain ⟨c,w⟩:=q
  obtain ⟨d,x⟩:=u
  unfold vcmp at *
  cases b <;>cases c <;>cases d <;>simp at * <;>grind
theorem rcmp_neg: ∀l m:Row,rcmp l m= -rcmp m l
  | [], []=>rfl
  | [],_::_=>rfl
  | _::_, []=>rfl
  | p::l,q::m=>by
    have h1:=vcmp_neg p q
    have h2:=rcmp_neg l m
    simp only [rcmp]
    split <;>split <;>omega
theorem rcmp_trans: ∀ {l m n:Row},rcmp l m<=0->rcmp m n<=0->rcmp l n<=0
  | [],_, [],_,_=>by simp [rcmp]
  | [],_,_::_,_,_=>by simp [rcmp]
  | p::l, [],_,h,_=>by simp [rcmp] at h
  | p::l,q::m, [],_,h=>by simp [rcmp] at h
  | p::l,q::m,u::n,h1,h2=>by
    simp only [rcmp] at *
    have h3: ∀(x:Int),x≠0\/x=0:=fun x=>by omega
    by_cases a:vcmp p q=0
    · by_cases b:vcmp q u=0
      · rw [if_neg (by omega)] at h1 h2
        obtain ⟨_,_,e⟩:=vcmp_lt (p:=p) (q:=q) (u:=u) (by omega) (by omega)
        rw [if_neg (by have:=e a b;omega)]
        exact rcmp_trans h1 h2
      · rw [if_pos b] at h2
        obtain ⟨e1,e2,_⟩:=vcmp_lt (p:=p) (q:=q) (u:=u) (by omega) h2
        rw [if_pos (fun e=>b (e2 e).2)]
        exact e1
    · rw [if_pos a] at h1
      have hb:vcmp q u<=0:=by split at h2 <;>omega
      obtain ⟨e1,e2,_⟩:=vcmp_lt h1 hb
      rw [if_pos (fun e=>a (e2 e).1)]
      exact e1
def leR (a b:Row):Bool:=decide (rcmp a b<=0)
def srt (l:List Row):List Row:=l.mergeSort leR
end Go.Proofs.Ytfplalbognalkaa.Ab
/- One outcome: a walk's result, drawn out ahead of the call. -/
namespace Go.Proofs.Ytfplalbognalkaa.Ab
open Go
theorem CallOK.mono {P:Program} {fn:FuncId} {args:List D} {l0:List O} {R R':D->List O->Prop} (h:CallOK P fn args l0 R) (hr: ∀d l,R d l->R' d l):CallOK P fn args l0 R':=by
  intro w G vs a b c
  exact (h w G vs a b c).mono fun e w' ⟨v,d',l',G',q1,q2,q3⟩=>⟨v,d',l',G',q1,hr _ _ q2,q3⟩
end Go.Proofs.Ytfplalbognalkaa.Ab
/- What is written in place is handed on: lent to a call that only looks, or published. -/
namespace Go.Proofs.Ytfplalbognalkaa.Ab
open Go
theorem FinV.trans {l0 l1 l2 l3:List O} {d1 d2 d3:D} (a:FinV l0 l1 d1 l2 d2) (b:FinV l0 l2 d2 l3 d3):FinV l0 l1 d1 l3 d3:=by
  intro w G v hi hr
  obtain ⟨G1,r1,i1,e1⟩:=a w G v hi hr
  obtain ⟨G2,r2,i2,e2⟩:=b w G1 v i1 r1
  exact ⟨G2,r2,i2,fun w0 G0 e=>e2 _ _ (e1 _ _ e)⟩
theorem take_get {ds:List D} {m:Nat} {xs:List E} (h:ds.take m=xs.map .e) {j:Nat} {d:E} (hd:xs[j]?=some d) (hj:j<m):ds[j]?=some (.e d):=by
  have:=congrArg (·[j]?) h
  simp only [List.getElem?_take,if_pos hj,List.getElem?_map,hd] at this
  exact this
theorem vec_pub {w:World} {G:Gh} {h h':Hp} {i k:Nat} {b:Bool} {ds:List D} {es:List (List E)} (hi:Inv w G h) (hb:h i= .vec b k ds) (hds:ds.take (es.length * k)=es.flatten.map .e) (hk: ∀e∈es,e.length=k) (h1:h' i= .gone) (h2: ∀j,j≠i->h' j=h j):
    ∃G',Inv w G' h'/\Ext w G h w G' h'/\ ∀v,Rv w G h v (.vec i es.length k)->Rv w G' h' v (.e (.sl es)):=by
  have hlt:b=true->G.blk i<w.heap.size:=fun e=>hi.lt i (by rw [hb];exact e)
  have hfl:es.flatten.length=es.length * k:=flatten_len hk
  have hap: ∀j,j≠i->(h j).has=true->b=true->G.blk j≠G.blk i:=fun j hj hh hbt e=>hj (hi.inj _ _ hh (by rw [hb];exact hbt) e)
  have hx:=hx_one (h:=h) (h':=h') (i:=i) h2 (by rw [hb];rfl) (by rw [h1];rfl)
  have x:Ext w G h w ⟨fun x o=>G.pub x o\/(b=true/\x=G.blk i/\o<es.length * k),G.blk,G.sg,G.rv,G.rb⟩ h':= {
    os:=rfl
    sgm:=fun _ _ e=>e
    idm:=fun j m e=>⟨m,hx.1 j m e⟩
    rvm:=fun j R e=>⟨⟨R,hx.2.1 j R e⟩,rfl⟩
    rbnew:=fun j R e b hb=> .inl ⟨j,R,hx.2.2.2 j R e,hb⟩
    idn:=fun j m e=>⟨j,m,hx.2.2.1 j m e⟩
    sgn:=fun _=>rfl
    sgw:=fun _ _ e=> .inl e
    tape:=rfl
    output:=rfl
    size:=Nat.le_refl _
    pub:=fun _ _ p=>⟨.inl p,rfl⟩
    box:=fun j ds e=>by
      have:j≠i:=fun q=>by rw [q,hb] at e;cases e
      exact ⟨⟨ds,by rw [h2 j this,e],rfl⟩,rfl⟩
    tok:=fun j n k e=>by
      have:j≠i:=fun q=>by rw [q,hb] at e;cases e
      exact ⟨n,by rw [h2 j this,e],Nat.le_refl _,fun _ _=>⟨rfl,rfl⟩⟩
    others:=fun _ _ _ _=>rfl
    new:=fun j hj=>by
      have:j≠i:=fun q=>by rw [q,h1] at hj;cases hj
      rw [h2 j this] at hj
      exact .inl ⟨j,hj,rfl⟩
    pubnew:=fun x o p=>by
      rcases p with p | ⟨hbt,rfl,_⟩
      · exact .inl p
      · exact .inr (.inr ⟨i,by rw [hb];exact hbt,rfl⟩)
    vec:=fun j b k ds e=>by
      by_cases q:j=i
      · subst q;exact .inl h1
      · exact .inr ⟨ds,by rw [h2 j q,e],Nat.le_refl _,fun _=>⟨rfl,rfl⟩⟩
    gone:=fun j e=>by
      have:j≠i:=fun q=>by rw [q,hb] at e;cases e
      rw [h2 j this,e]
    smap:=fun j l e=>by
      have:j≠i:=fun q=>by rw [q,hb] at e;cases e
      exact ⟨⟨l,by rw [h2 j this,e]⟩,rfl⟩}
  have xk:=XOk.step (w':=w) (G':=⟨fun x o=>G.pub x o\/(b=true/\x=G.blk i/\o<es.length * k),G.blk,G.sg,G.rv,G.rb⟩) (h':=h') hi.x x.size rfl rfl rfl hx.2.2.1 hx.2.2.2 x.new x.pubnew fun _ _ _=>rfl
  refine ⟨_,⟨fun j hj=>?_,fun j j' hj hj' e=>?_,fun x o p=>?_,fun j ds e=>?_,fun j n k' e hn=>?_,fun j b' k' ds e=>?_,fun j l e=>?_,xk⟩,x,fun v hv=>?_⟩
  · have:j≠i:=fun q=>by rw [q,h1] at hj;cases hj
    rw [h2 j this] at hj
    exact hi.lt j hj
  · have q:j≠i:=fun q=>by rw [q,h1] at hj;cases hj
    have q':j'≠i:=fun q=>by rw [q,h1] at hj';cases hj'
    rw [h2 j q] at hj
    rw [h2 j' q'] at hj'
    exact hi.inj _ _ hj hj' e
  · rcases p with p | ⟨hbt,rfl,_⟩
    · exact hi.publt _ _ p
    · exact hlt hbt
  · have q:j≠i:=fun q=>by rw [q,h1] at e;cases e
    rw [h2 j q] at e
    obtain ⟨a1,cs,T,a2,a3,a4⟩:=hi.box j ds e
    refine ⟨fun o p=>?_,cs,T,a2,a3,fun m c d hc hd=>⟨(a4 m c d hc hd).1.ext x,(a4 m c d hc hd).2⟩⟩
    rcases p with p | ⟨hbt,p,_⟩
    · exact a1 o p
    · exact hap j q (by rw [e];rfl) hbt p
  · have q:j≠i:=fun q=>by rw [q,h1] at e;cases e
    rw [h2 j q] at e
    obtain ⟨a1,a2⟩:=hi.front j n k' e hn
    refine ⟨a1,fun o ho p=>?_⟩
    rcases p with p | ⟨hbt,p,_⟩
    · exact a2 o ho p
    · exact hap j q (by rw [e];simp [O.has,hn]) hbt p
  · have q:j≠i:=fun q=>by rw [q,h1] at e;cases e
    rw [h2 j q] at e
    obtain ⟨a0,a⟩:=hi.vec j b' k' ds e
    refine ⟨a0,fun hb'=>?_⟩
    obtain ⟨a1,cs,T,a2,a3,a4⟩:=a hb'
    refine ⟨fun o p=>?_,cs,T,a2,a3,fun m c d hc hd=>⟨(a4 m c d hc hd).1.ext x,(a4 m c d hc hd).2⟩⟩
    rcases p with p | ⟨hbt,p,_⟩
    · exact a1 o p
    · exact hap j q (by rw [e];exact hb') hbt p
  · have q:j≠i:=fun q=>by rw [q,h1] at e;cases e
    rw [h2 j q] at e
    obtain ⟨a1,es',ck,a2,a3,a4⟩:=hi.smap j l e
    refine ⟨fun o p=>?_,es',ck,a2,a3,fun m e p a b=>⟨(a4 m e p a b).1,(a4 m e p a b).2.mono x.pub x.sgm⟩⟩
    rcases p with p | ⟨hbt,p,_⟩
    · exact a1 o p
    · exact hap j q (by rw [e];rfl) hbt p
  · obtain ⟨a,cap,rfl,_,hm,hnc,hvo⟩:=rv_vec hv
    obtain ⟨_,hlen,hf,ht⟩:=hvo _ _ _ hb
    refine .e ?_
    cases b with
    | false=>
      obtain ⟨h0,rfl,hsp⟩:=hf rfl
      have:es= []:=List.length_eq_zero_iff.1 h0
      subst this
      exact .nils fun _=>rfl
    | true=>
      obtain ⟨rfl,_⟩:=ht rfl
      obtain ⟨uu,hu1,hu2⟩:=vec_cells hi hb
      have hlen:es.length * k<=ds.length:=by have:=congrArg List.length hds;rw [List.length_take,List.length_map,hfl] at this;omega
      refine .sl (k:=k) uu rfl hnc hm hk (fun j hj=>?_) (fun j d hd=>?_)
      · rw [Nat.zero_add]
        exact ⟨.inr ⟨rfl,rfl,hj⟩,hu1 j (by omega)⟩
      · have hj:j<es.length * k:=by rw [<-hfl];exact (List.getElem?_eq_some_iff.1 hd).1
        have:=(hu2 j (.e d) (take_get hds hd hj)).1
        exact (rv_e this).mono x.pub x.sgm
theorem hpF_set {l:List O} {i:Nat} {o:O} (hi:i<l.length):hpF (l.set i o) i=o/\ ∀j,j≠i->hpF (l.set i o) j=hpF l j:=by
  refine ⟨by simp [hpF,List.getD,hi],fun j hj=>?_⟩
  simp [hpF,List.getD,List.getElem?_set_ne (Ne.symm hj)]
theorem hp_lt {l:List O} {i:Nat} (h:hpF l i≠ .dead):i<l.length:=by
  rcases Nat.lt_or_ge i l.length with q | q
  · exact q
  · exact absurd (hpF_ge q) h
theorem Weak.pub {h0:Hp} {env:List (Nat×D)} {hp:List O} (t i n k:Nat) {b:Bool} {ds:List D} {es:List (List E)} (ht:look t env=some (.vec i n k)) (hb:hpF hp i= .vec b k ds) (hn:es.length=n) (hds:ds.take (n * k)=es.flatten.map .e) (hk: ∀e∈es,e.length=k):
    Weak h0 ⟨env,hp⟩ ⟨(t,.e (.sl es))::env,hp.set i .gone⟩:=by
  intro w G hi
  have hlt:i<hp.length:=hp_lt (by rw [hb];simp)
  obtain ⟨a1,a2⟩:=hpF_set (o:= .gone) hlt
  obtain ⟨G',i1,x1,r1⟩:=vec_pub hi hb (by rw [hn];exact hds) hk a1 a2
  refine ⟨G',i1,fun w0 G0 e=>e.trans x1,fun t' d' hl=>?_⟩
  simp only [look] at hl
  split at hl
  · rename_i e
    subst e
    cases hl
    exact ⟨_,ht,fun v r=>r1 v (by rw [hn];exact r)⟩
  · exact ⟨d',hl,fun v r=>r.ext x1⟩
theorem FinV.pub {l0 l:List O} {i n k:Nat} {b:Bool} {ds:List D} {es:List (List E)} (hb:hpF l i= .vec b k ds) (hn:es.length=n) (hds:ds.take (n * k)=es.flatten.map .e) (hk: ∀e∈es,e.length=k):FinV l0 l (.vec i n k) (l.set i .gone) (.e (.sl es)):=by
  intro w G v hi hr
  obtain ⟨a1,a2⟩:=hpF_set (o:= .gone) (hp_lt (by rw [hb];simp))
  obtain ⟨G',i1,x1,r1⟩:=vec_pub hi hb (by rw [hn];exact hds) hk a1 a2
  exact ⟨G',r1 v (by rw [hn];exact hr),i1,fun w0 G0 e=>e.trans x1⟩
mutual
def D.sc:D->Bool
  | .e (.v _)=>true
  | .agg ds=>scs ds
  | .tup ds=>scs ds
  | _=>false
def scs:List D->Bool
  | []=>true
  | d::r=>d.sc&&scs r
end
theorem scs_get: ∀ {ds:List D} {j:Nat} {d:D},scs ds=true->ds[j]?=some d->d.sc=true
  | [],j,d,_,hd=>by simp at hd
  | x::r,0,d,h,hd=>by
    simp only [scs,Bool.and_eq_true] at h
    simp at hd;subst hd;exact h.1
  | x::r,j+1,d,h,hd=>by
    simp only [scs,Bool.and_eq_true] at h
    exact scs_get h.2 (by simpa using hd)
theorem Rv.sc {w:World} {G:Gh} {h:Hp} {v:Value} {d:D} (r:Rv w G h v d) {w':World} {G':Gh} {h':Hp} (hs:d.sc=true):Rv w' G' h' v d:=by
  induction r with
  | @e x d h=>
    cases d with
    | v y=>cases h with | v h=>exact .e (.v h)
    | _=>simp [D.sc] at hs
  | agg hl h1 _ ih=>exact .agg hl h1 fun j c d hc hd=>ih j c d hc hd (scs_get (by simpa [D.sc] using hs) hd)
  | tup hl _ ih=>exact .tup hl fun j c d hc hd=>ih j c d hc hd (scs_get (by simpa [D.sc] using hs) hd)
  | _=>simp [D.sc] at hs
def Lent (h:Hp) (L:List Nat) (d a:D):Prop:=
  (a=d/\d.free=true)\/(a=d.pl/\d.pl.free=true)\/
  (∃i n k b ds es,d= .vec i n k/\i∈L/\h i= .vec b k ds/\a= .e (.sl es)/\ds.take (n * k)=es.flatten.map .e/\es.length=n/\ ∀e∈es,e.length=k)\/
  (∃i n k ds es,d= .bs i 0 n k/\i∈L/\h i= .box ds/\a= .e (.sl es)/\ds.take (n * k)=es.flatten.map .e/\es.length=n/\ ∀e∈es,e.length=k)
def Lents (h:Hp) (L:List Nat):List D->List D->Prop
  | [], []=>True
  | d::r,a::s=>Lent h L d a/\Lents h L r s
  | _,_=>False
theorem Lents.len {h:Hp} {L:List Nat} : ∀ {ds az:List D},Lents h L ds az->az.length=ds.length
  | [], [],_=>rfl
  | _::_,_::_,x=>by simp [Lents.len x.2]
  | [],_::_,x=>x.elim
  | _::_, [],x=>x.elim
theorem Lents.get {h:Hp} {L:List Nat} : ∀ {ds az:List D} {j:Nat} {a:D},Lents h L ds az->az[j]?=some a-> ∃d,ds[j]?=some d/\Lent h L d a
  | [], [],j,_,_,e=>by simp at e
  | d::_,_::_,0,_,x,e=>by simp at e;subst e;exact ⟨d,by simp,x.1⟩
  | _::_,_::_,j+1,_,x,e=>by obtain ⟨d,h1,h2⟩:=Lents.get x.2 (by simpa using e);exact ⟨d,by simpa using h1,h2⟩
  | [],_::_,_,_,x,_=>x.elim
  | _::_, [],_,_,x,_=>x.elim
def allPub (w:World) (G:Gh):Gh:=⟨fun b _=>b<w.heap.size,G.blk,G.sg,G.rv,G.rb⟩
theorem frame_look {w w':World} {G G1:Gh} {h h1:Hp} (hi:Inv w G h) (he:Ext w (allPub w G) (hpF []) w' G1 h1):Inv w' G h/\Ext w G h w' G h:=by
  rw [hpF_nil] at he
  have row: ∀b,b<w.heap.size->w'.heap[b]?=w.heap[b]?:=fun b hb=>he.others b hb (fun j hj=>by simp [O.has] at hj) fun j R e=>by simp at e
  have ext:Ext w G h w' G h:= {
    os:=he.os
    sgm:=fun _ _ e=>e
    idm:=fun j m e=>⟨m,e⟩
    rvm:=fun j R e=>⟨⟨R,e⟩,rfl⟩
    rbnew:=fun j R e b hb=> .inl ⟨j,R,e,hb⟩
    idn:=fun j m e=>⟨j,m,e⟩
    sgn:=fun _=>rfl
    sgw:=fun _ _ e=> .inl e
    tape:=he.tape
    output:=he.output
    size:=he.size
    pub:=fun b o p=>⟨p,by simp only [World.cell?];rw [row b (hi.publt b o p)]⟩
    box:=fun i ds e=>⟨⟨ds,e,rfl⟩,rfl⟩
    tok:=fun i n k e=>⟨n,e,Nat.le_refl _,fun _ hn=>⟨rfl,by simp only [World.shape?];rw [row _ (hi.lt i (by rw [e];simp [O.has,hn]))]⟩⟩
    others:=fun b hb _ _=>row b hb
    new:=fun i hi=> .inl ⟨i,hi,rfl⟩
    vec:=fun i b k ds e=> .inr ⟨ds,e,Nat.le_refl _,fun hb=>⟨rfl,by simp only [World.shape?];rw [row _ (hi.lt i (by rw [e];exact hb))]⟩⟩
    gone:=fun _ e=>e
    smap:=fun _ l e=>⟨⟨l,e⟩,rfl⟩
    pubnew:=fun b o p=> .inl p}
  refine ⟨⟨fun i hh=>Nat.lt_of_lt_of_le (hi.lt i hh) he.size,hi.inj,fun b o p=>Nat.lt_of_lt_of_le (hi.publt b o p) he.size,fun i ds e=>?_,fun i n k e hn=>?_,fun i b k ds e=>?_,fun i l e=>?_,hi.x.step he.size rfl rfl rfl (fun _ _ e=>e) (fun _ _ e=>e) ext.new ext.pubnew fun b hb _=>row b hb⟩,ext⟩
  · obtain ⟨a1,cs,T,a2,a3,a4⟩:=hi.box i ds e
    exact ⟨a1,cs,T,by rw [<-a2];exact row _ (hi.lt i (by rw [e];rfl)),a3,fun j c d hc hd=>⟨(a4 j c d hc hd).1.ext ext,(a4 j c d hc hd).2⟩⟩
  · obtain ⟨⟨cs,T,a1⟩,a2⟩:=hi.front i n k e hn
    exact ⟨⟨cs,T,by rw [<-a1];exact row _ (hi.lt i (by rw [e];simp [O.has,hn]))⟩,a2⟩
  · obtain ⟨a0,a⟩:=hi.vec i b k ds e
    refine ⟨a0,fun hb=>?_⟩
    obtain ⟨a1,cs,T,a2,a3,a4⟩:=a hb
    exact ⟨a1,cs,T,by rw [<-a2];exact row _ (hi.lt i (by rw [e];exact hb)),a3,fun j c d hc hd=>⟨(a4 j c d hc hd).1.ext ext,(a4 j c d hc hd).2⟩⟩
  · obtain ⟨a1,es,ck,a2,a3,a4⟩:=hi.smap i l e
    exact ⟨a1,es,ck,by rw [<-a2];exact row _ (hi.lt i (by rw [e];rfl)),a3,fun j e p a b=>⟨(a4 j e p a b).1,(a4 j e p a b).2.mono ext.pub ext.sgm⟩⟩
end Go.Proofs.Ytfplalbognalkaa.Ab
/- Calls that leave what they are handed as it was. -/
namespace Go.Proofs.Ytfplalbognalkaa.Ab
open Go
theorem Proc.callRO {P:Program} {fn:FuncId} {args:RF->List D} {l0:RF->List O} {d:RF->D} (h:Proc P fn args l0 d l0) {L:List Nat} {f:Nat} (hL:L.length=(l0 id).length) (hn:ndB L=true) (hf: ∀i∈L,i<f):
    CallE P fn (args (num L f)) (L.zip (l0 (num L f))) f {d:=some (d (num L f)),tc:=L} :=by
  intro w G hh h' vs hi hpre hal hh' hs hr
  have e':h'=hh:=by
    funext i
    rw [hh' i]
    simp only [List.length_nil,Nat.add_zero,List.find?_nil]
    rw [if_neg (by omega)]
  subst e'
  have ll:(l0 (num L f)).length=L.length:=by rw [h.side.r0,List.length_map,hL]
  have hd:(l0 (num L f)).drop L.length= []:=List.drop_eq_nil_of_le (by omega)
  have ht:(l0 (num L f)).take L.length=l0 (num L f):=List.take_of_length_le (by omega)
  refine (h.callE hL hn hf) w G h' h' vs hi hpre (fun j hj=>?_) (fun i=>?_) hs hr
  · simp only [hd,List.length_nil] at hj
    omega
  · simp only [hd,ht,List.length_nil,Nat.add_zero]
    rw [if_neg (by omega)]
    cases hf2:(L.zip (l0 (num L f))).find? (·.1==i) with
    | none=>rfl
    | some x=>
      have h1:=List.mem_of_find?_eq_some hf2
      have h2:=List.find?_some hf2
      simp only [beq_iff_eq] at h2
      rw [<-h2]
      exact hpre x.1 x.2 h1
theorem callK_ro {A:Ar} (hA:A.Ok) {P Q:Program} (e:P=Q) {hp:Hp} {f:Nat} {gd g:Bool} {fn:FuncId} {ds:List D} {o:Prop} {K:Prop->Eff->Prop} {args:RF->List D} {l0:RF->List O} {d:RF->D} (L:List Nat)
    (hn:(ndB L&&L.all (· <f))=true) (hpre:hpAll hp L (l0 (num L f))) (hw:Wks ds (args (num L f)))
    (hk:K o {d:=some (if gd then .when g (d (num L f)) else d (num L f)),tc:=L})
    (h:g=true->o->Proc Q fn args l0 d l0) (hs:Side args l0 d l0):A.call P hp f gd g fn ds o K:=by
  have hL:L.length=(l0 id).length:=by rw [hpAll_len hpre,hs.r0,List.length_map]
  simp only [Bool.and_eq_true,List.all_eq_true,decide_eq_true_eq] at hn
  refine hA.call _ _ _ _ _ _ _ _ _ ⟨args (num L f),L.zip (l0 (num L f)),_,hw,fun hg ho=>e▸(h hg ho).callRO hL hn.1 hn.2,hpAll_mem hpre,fun _ _=>⟨rfl,rfl⟩,fun x hx=>(List.not_mem_nil hx).elim,?_,d (num L f),rfl,by simpa using hk⟩
  rw [List.map_fst_zip]
  rw [<-hpAll_len hpre];exact Nat.le_refl _
end Go.Proofs.Ytfplalbognalkaa.Ab
/- What is handed back gets a number: a slice that nobody else holds. -/
namespace Go.Proofs.Ytfplalbognalkaa.Ab
open Go
def Gh.seal (G:Gh) (x n m z:Nat):Gh:=⟨fun b o=>G.pub b o\/(b=x/\o<n),G.blk,fun j=>if j=m then some (x,z) else G.sg j,G.rv,G.rb⟩
theorem ids_hp {m i:Nat} :hpF [O.ids m] i=if i=0 then .ids m else .dead:=by
  cases i <;>simp [hpF]
theorem seal_mono {w:World} {G:Gh} {h:Hp} {t m x n z:Nat} (hi:Inv w G h) (ht:h t= .ids m) {v:Value} {e:E} (r:RvE w G v e):RvE w (G.seal x n m z) v e:=
  r.mono (G':=G.seal x n m z) (fun _ _ p=>⟨.inl p,rfl⟩) fun j b e=>by
    simp only [Gh.seal]
    rw [if_neg (fun q=>by rw [hi.x.ids _ _ ht j (by omega)] at e;cases e)]
    exact e
theorem seal_out {w:World} {G:Gh} {l:List O} {m0 m t i n z:Nat} (hi:Inv w G (hpF l)) (ht:hpF l t= .ids m) (hh:(hpF l i).has=true) (hz: ∃cs T,w.heap[G.blk i]?=some (.cells cs T (0,0))/\z<=cs.size):
    Inv w (G.seal (G.blk i) n m z) (hpF [.ids (m+1)])/\ ∀w0 G0,Ext w0 G0 (hpF [.ids m0]) w G (hpF l)->Ext w0 G0 (hpF [.ids m0]) w (G.seal (G.blk i) n m z) (hpF [.ids (m+1)]):=by
  have hlt:G.blk i<w.heap.size:=hi.lt i hh
  have nh: ∀j k,(hpF [O.ids k] j).has=false:=fun j k=>by rw [ids_hp];split <;>rfl
  have no: ∀ {j k:Nat} {o:O},hpF [O.ids k] j=o->(∀m,o≠ .ids m)->o= .dead:=fun {j k o} e h1=>by
    rw [ids_hp] at e
    split at e
    · exact absurd e.symm (h1 _)
    · exact e.symm
  have sg: ∀j b,(G.seal (G.blk i) n m z).sg j=some b->(j=m/\b=(G.blk i,z))\/(j≠m/\G.sg j=some b):=fun j b e=>by
    simp only [Gh.seal] at e
    split at e
    · cases e;exact .inl ⟨by assumption,rfl⟩
    · exact .inr ⟨by assumption,e⟩
  refine ⟨⟨fun j h=>?_,fun j k h=>?_,fun b o p=>?_,fun j ds e=>?_,fun j n k e=>?_,fun j b k ds e=>?_,fun j l e=>?_,⟨fun j b e=>?_,fun j k b c e1 e2 e3=>?_,fun j m' e k hk=>?_,fun j k m1 m2 e1 e2=>?_,fun j R e=>?_⟩⟩,fun w0 G0 e=>?_⟩
  · rw [nh] at h;cases h
  · rw [nh] at h;cases h
  · rcases p with p | ⟨rfl,_⟩
    · exact hi.publt b o p
    · exact hlt
  · have:=no e (by simp);cases this
  · have:=no e (by simp);cases this
  · have:=no e (by simp);cases this
  · have:=no e (by simp);cases this
  · rcases sg j b e with ⟨_,rfl⟩ | ⟨_,e⟩
    · exact ⟨hlt,fun k h=>(by rw [nh] at h;cases h),hz⟩
    · exact ⟨(hi.x.sgs j b e).1,fun k h=>(by rw [nh] at h;cases h),(hi.x.sgs j b e).2.2⟩
  · rcases sg j b e1 with ⟨a1,a2⟩ | ⟨a1,a2⟩ <;>rcases sg k c e2 with ⟨c1,c2⟩ | ⟨c1,c2⟩
    · omega
    · exact absurd (by rw [<-e3,a2]) ((hi.x.sgs k _ c2).2.1 i hh)
    · exact absurd (by rw [e3,c2]) ((hi.x.sgs j _ a2).2.1 i hh)
    · exact hi.x.sgi j k b c a2 c2 e3
  · rw [ids_hp] at e
    split at e
    · cases e
      simp only [Gh.seal]
      rw [if_neg (by omega)]
      exact hi.x.ids _ _ ht k (by omega)
    · cases e
  · rw [ids_hp] at e1 e2
    split at e1
    · split at e2
      · omega
      · cases e2
    · cases e1
  · have:=no e (by simp);cases this
  · have fresh:w0.heap.size<=G.blk i:=by
      rcases e.new i hh with ⟨j,q,_⟩ | q
      · rw [nh] at q;cases q
      · exact q
    refine ⟨e.os,e.tape,e.output,e.size,fun b o p=>⟨.inl (e.pub b o p).1,(e.pub b o p).2⟩,fun j ds q=>?_,fun j n k q=>?_,fun b hb h1 h2=>e.others b hb h1 h2,fun j h=>?_,fun b o p=>?_,fun j b k ds q=>?_,fun j q=>?_,fun j l q=>?_,fun j b q=>?_,fun j m' q=>?_,fun j R q=>?_,fun j R q=>?_,fun j m' q=>?_,fun q=>?_,fun j b q=>?_⟩
    · have:=no q (by simp);cases this
    · have:=no q (by simp);cases this
    · rw [nh] at h;cases h
    · rcases p with p | ⟨rfl,_⟩
      · exact e.pubnew b o p
      · exact .inr (.inl fresh)
    · have:=no q (by simp);cases this
    · have:=no q (by simp);cases this
    · have:=no q (by simp);cases this
    · have q:=e.sgm j b q
      simp only [Gh.seal]
      rw [if_neg (fun q2=>by rw [hi.x.ids _ _ ht j (by omega)] at q;cases q)]
      exact q
    · rw [ids_hp] at q
      split at q
      · rename_i q0;subst q0;exact ⟨m+1,rfl⟩
      · cases q
    · have:=no q (by simp);cases this
    · have:=no q (by simp);cases this
    · rw [ids_hp] at q
      split at q
      · exact ⟨0,m0,rfl⟩
      · cases q
    · exact absurd rfl (q 0 m0)
    · rcases sg j b q with ⟨_,rfl⟩ | ⟨_,q⟩
      · exact .inr (.inl fresh)
      · exact e.sgw j b q
theorem tok_out {w:World} {G:Gh} {l:List O} {m0 m m1 t:Nat} (hi:Inv w G (hpF l)) (ht:hpF l t= .ids m) (hm:m<=m1):
    Inv w G (hpF [.ids m1])/\ ∀w0 G0,Ext w0 G0 (hpF [.ids m0]) w G (hpF l)->Ext w0 G0 (hpF [.ids m0]) w G (hpF [.ids m1]):=by
  have nh: ∀j k,(hpF [O.ids k] j).has=false:=fun j k=>by rw [ids_hp];split <;>rfl
  have no: ∀ {j k:Nat} {o:O},hpF [O.ids k] j=o->(∀m,o≠ .ids m)->o= .dead:=fun {j k o} e h1=>by
    rw [ids_hp] at e
    split at e
    · exact absurd e.symm (h1 _)
    · exact e.symm
  refine ⟨⟨fun j h=>?_,fun j k h=>?_,hi.publt,fun j ds e=>?_,fun j n k e=>?_,fun j b k ds e=>?_,fun j l e=>?_,⟨fun j b e=>⟨(hi.x.sgs j b e).1,fun k h=>(by rw [nh] at h;cases h),(hi.x.sgs j b e).2.2⟩,hi.x.sgi,fun j m' e k hk=>?_,fun j k m1 m2 e1 e2=>?_,fun j R e=>?_⟩⟩,fun w0 G0 e=>?_⟩
  · rw [nh] at h;cases h
  · rw [nh] at h;cases h
  · have:=no e (by simp);cases this
  · have:=no e (by simp);cases this
  · have:=no e (by simp);cases this
  · have:=no e (by simp);cases this
  · rw [ids_hp] at e
    split at e
    · cases e
      exact hi.x.ids _ _ ht k (by omega)
    · cases e
  · rw [ids_hp] at e1 e2
    split at e1
    · split at e2
      · omega
      · cases e2
    · cases e1
  · have:=no e (by simp);cases this
  · refine ⟨e.os,e.tape,e.output,e.size,e.pub,fun j ds q=>?_,fun j n k q=>?_,e.others,fun j h=>?_,e.pubnew,fun j b k ds q=>?_,fun j q=>?_,fun j l q=>?_,e.sgm,fun j m' q=>?_,fun j R q=>?_,fun j R q=>?_,fun j m' q=>?_,fun q=>?_,e.sgw⟩
    · have:=no q (by simp);cases this
    · have:=no q (by simp);cases this
    · rw [nh] at h;cases h
    · have:=no q (by simp);cases this
    · have:=no q (by simp);cases this
    · have:=no q (by simp);cases this
    · rw [ids_hp] at q
      split at q
      · rename_i q0;subst q0;exact ⟨m1,rfl⟩
      · cases q
    · have:=no q (by simp);cases this
    · have:=no q (by simp);cases this
    · rw [ids_hp] at q
      split at q
      · exact ⟨0,m0,rfl⟩
      · cases q
    · exact absurd rfl (q 0 m0)
theorem finv_bsFs {l:List O} {m0 m t i n k:Nat} {es:List (List E)} (ht:hpF l t= .ids m) (hb:hpF l i= .box (es.flatten.map .e)) (hn:es.length=n) (hk: ∀e∈es,e.length=k):
    FinV [.ids m0] l (.bs i 0 n k) [.ids (m+1)] (.e (.fs m es)):=by
  intro w G v hi hr
  have hfl:es.flatten.length=n * k:=by rw [flatten_len hk,hn]
  obtain ⟨hnp,cs,T,hc,hcl,hcr⟩:=hi.box i _ hb
  obtain ⟨i1,x1⟩:=seal_out (m0:=m0) (n:=n * k) (z:=cs.size) hi ht (i:=i) (by rw [hb];rfl) ⟨cs,T,hc,Nat.le_refl _⟩
  refine ⟨_,?_,i1,x1⟩
  cases hr with
  | bs hb' hcap hl hm=>
    rename_i cap ds b o
    rw [hb] at hb'
    cases hb'
    refine .e ?_
    rcases hl with h0 | ⟨rfl,rfl,hsz⟩
    · have:es= []:=List.length_eq_zero_iff.1 (by omega)
      subst this
      subst h0
      exact .fnils fun h=>by cases h
    · refine .fs (k:=k) (z:=cs.size) (fun j=>cs.getD j undef) (by simp [Gh.seal]) (by omega) hn hcap hm hk (fun j hj=>?_) (fun j d hd=>?_)
      · have hjc:j<cs.size:=by rw [hcl,List.length_map,hfl];exact hj
        rw [Nat.zero_add]
        exact ⟨.inr ⟨rfl,hj⟩,by simp [World.cell?,hc,hjc]⟩
      · have hj:j<cs.size:=by rw [hcl,List.length_map];exact (List.getElem?_eq_some_iff.1 hd).1
        have:=(hcr j cs[j] (.e d) (by simp [hj]) (by rw [List.getElem?_map,hd];rfl)).1
        have hg:cs.getD j undef=cs[j]:=by simp [Array.getD,hj]
        rw [hg]
        exact seal_mono hi ht (rv_e this)
theorem finv_vecFs {l:List O} {m0 m t i n k:Nat} {b:Bool} {ds:List D} {es:List (List E)} (ht:hpF l t= .ids m) (hb:hpF l i= .vec b k ds) (hn:es.length=n) (hds:ds.take (n * k)=es.flatten.map .e) (hk: ∀e∈es,e.length=k):
    FinV [.ids m0] l (.vec i n k) [.ids (m+1)] (.e (.fs m es)):=by
  have hfl:es.flatten.length=n * k:=by rw [flatten_len hk,hn]
  intro w G v hi hr
  cases b with
  | true=>
    obtain ⟨_,cs,T,hcs,_⟩:=(hi.vec i _ _ _ hb).2 rfl
    obtain ⟨i1,x1⟩:=seal_out (m0:=m0) (n:=n * k) (z:=cs.size) hi ht (i:=i) (by rw [hb];rfl) ⟨cs,T,hcs,Nat.le_refl _⟩
    refine ⟨_,?_,i1,x1⟩
    obtain ⟨a,cap,rfl,_,hm,hnc,hvo⟩:=rv_vec hr
    obtain ⟨_,hlen,_,htt⟩:=hvo _ _ _ hb
    obtain ⟨rfl,cs2,T2,fr2,hcs2,hcap⟩:=htt rfl
    have hcap:cap * k<=cs.size:=by rw [hcs] at hcs2;cases hcs2;exact hcap
    obtain ⟨uu,hu1,hu2⟩:=vec_cells hi hb
    refine .e (.fs (k:=k) (z:=cs.size) uu (by simp [Gh.seal]) hcap hn hnc hm hk (fun j hj=>?_) (fun j d hd=>?_))
    · rw [Nat.zero_add]
      exact ⟨.inr ⟨rfl,hj⟩,hu1 j (by omega)⟩
    · have hj:j<n * k:=by rw [<-hfl];exact (List.getElem?_eq_some_iff.1 hd).1
      exact seal_mono hi ht (rv_e (hu2 j (.e d) (take_get hds hd hj)).1)
  | false=>
    obtain ⟨i1,x1⟩:=tok_out (m0:=m0) (m1:=m+1) hi ht (by omega)
    refine ⟨G,?_,i1,x1⟩
    obtain ⟨a,cap,rfl,_,hm,hnc,hvo⟩:=rv_vec hr
    obtain ⟨_,_,hff,_⟩:=hvo _ _ _ hb
    obtain ⟨rfl,rfl,_⟩:=hff rfl
    have:es= []:=List.length_eq_zero_iff.1 hn
    subst this
    exact .e (.fnils fun _=>rfl)
theorem finv_tok {l:List O} {m0 m t:Nat} {d' d:D} (ht:hpF l t= .ids m) (h:d'.pl=d) (hf:d.free=true):FinV [.ids m0] l d' [.ids m] d:=by
  intro w G v hi hr
  obtain ⟨i1,x1⟩:=tok_out (m0:=m0) (m1:=m) hi ht (Nat.le_refl _)
  have:=hr.pl
  rw [h] at this
  exact ⟨G,this.free hf rfl rfl,i1,x1⟩
mutual
def E.un:E->E
  | .v x=> .v x
  | .sl es=> .sl (unss es)
  | .iv t e=> .iv t e.un
  | .ia t es=> .ia t (uns es)
  | .fs _ es=> .sl (unss es)
def uns:List E->List E
  | []=> []
  | e::r=>e.un::uns r
def unss:List (List E)->List (List E)
  | []=> []
  | e::r=>uns e::unss r
end
theorem uns_map: ∀es:List E,uns es=es.map E.un
  | []=>rfl
  | e::r=>by rw [uns,uns_map r];rfl
theorem unss_map: ∀es:List (List E),unss es=es.map fun e=>e.map E.un
  | []=>rfl
  | e::r=>by rw [unss,unss_map r,uns_map];rfl
theorem unss_flat (es:List (List E)):(unss es).flatten=es.flatten.map E.un:=by
  rw [unss_map,List.map_flatten]
theorem RvE.un {w:World} {G:Gh} {v:Value} {e:E} (r:RvE w G v e):RvE w G v e.un:=by
  induction r with
  | v h=>exact .v h
  | nils h=>exact .nils h
  | @sl b off n cap k es u hn hc hm hk hp hr ih=>
    refine .sl (k:=k) u (by rw [unss_map,List.length_map];exact hn) hc hm (fun e he=>?_) hp fun j d hd=>?_
    · rw [unss_map] at he
      obtain ⟨e0,h0,rfl⟩:=List.mem_map.1 he
      rw [List.length_map];exact hk _ h0
    · rw [unss_flat,List.getElem?_map] at hd
      obtain ⟨d0,h0,rfl⟩:=Option.map_eq_some_iff.1 hd
      exact ih j d0 h0
  | iv _ ih=>exact .iv ih
  | @ia t cs ds hl _ ih=>
    refine .ia (by rw [uns_map,List.length_map];exact hl) fun j c d hc hd=>?_
    rw [uns_map,List.getElem?_map] at hd
    obtain ⟨d0,h0,rfl⟩:=Option.map_eq_some_iff.1 hd
    exact ih j c d0 hc h0
  | @fs i b n cap k es z u hs hz hn hc hm hk hp hr ih=>
    refine .sl (k:=k) u (by rw [unss_map,List.length_map];exact hn) hc hm (fun e he=>?_) hp fun j d hd=>?_
    · rw [unss_map] at he
      obtain ⟨e0,h0,rfl⟩:=List.mem_map.1 he
      rw [List.length_map];exact hk _ h0
    · rw [unss_flat,List.getElem?_map] at hd
      obtain ⟨d0,h0,rfl⟩:=Option.map_eq_some_iff.1 hd
      exact ih j d0 h0
  | fnils h=>exact .nils h
end Go.Proofs.Ytfplalbognalkaa.Ab
/- The code of functions, in the small language. -/
namespace Go.Proofs.Ytfplalbognalkaa.Ab
open Go
def c20:F:=⟨19, [(.tmp 4)],(.seq (.reg [ZA 4 (.mov (.c (.int 0)))]) (.seq (.seq (.reg [ZA 5 (.mov (.c (.int 0)))]) (.block 0 (.loop (.seq (.seq (.reg [ZA 6 (.mov 5),ZA 7 (.mov 0),ZA 8 (.lenl 7),ZA 9 (.bin .lss 6 8)]) (.cond 9 .skip (.exit 0))) (.seq (.block 1 (.reg [ZA 12 (.mov 0),ZA 13 (.mov 5),ZA 14 (.iadr none 1 12 13),ZA 15 (.load false 1 14),ZA 16 (.mov 1),ZA 17 (.call 60 [15,16]),ZA 1 (.mov 17)])) (.reg [ZA 10 (.mov 5),ZA 11 (.bin .add 10 (.c (.int 1))),ZA 5 (.mov 11)])))))) (.seq (.reg [ZA 18 (.mov 1),ZA 4 (.mov 18)]) .ret)))⟩
theorem p20:prepF Try.prog 20=some c20:=by kernel_rfl
def c60:F:=⟨29, [(.tmp 4)],(.seq (.reg [ZA 4 (.mov (.c (.int 0)))]) (.seq (.seq (.reg [ZA 5 (.mov (.c (.int 0)))]) (.block 0 (.loop (.seq (.seq (.reg [ZA 6 (.mov 5),ZA 7 (.mov 0),ZA 8 (.lenl 7),ZA 9 (.bin .lss 6 8)]) (.cond 9 .skip (.exit 0))) (.seq (.block 1 (.seq (.reg [ZA 12 (.mov 0),ZA 13 (.mov 5),ZA 14 (.mov 1),ZA 15 (.bin .rem 14 (.c (.int 3))),ZA 16 (.bin .eql 15 (.c (.int 0))),ZA 17 (.iadr none 2 12 13),ZA 18 (.fadr 0 17),ZN (.store false 1 18 16)]) (.seq (.reg [ZA 19 (.mov 1),ZA 20 (.bin .add 19 (.c (.int 1))),ZA 1 (.mov 20)]) (.seq (.reg [ZA 21 (.mov 0),ZA 22 (.mov 5),ZA 23 (.mov 1),ZA 24 (.iadr none 2 21 22),ZA 25 (.fadr 1 24),ZN (.store false 1 25 23)]) (.reg [ZA 26 (.mov 1),ZA 27 (.bin .add 26 (.c (.int 1))),ZA 1 (.mov 27)]))))) (.reg [ZA 10 (.mov 5),ZA 11 (.bin .add 10 (.c (.int 1))),ZA 5 (.mov 11)])))))) (.seq (.reg [ZA 28 (.mov 1),ZA 4 (.mov 28)]) .ret)))⟩
theorem p60:prepF Try.prog 60=some c60:=by kernel_rfl
end Go.Proofs.Ytfplalbognalkaa.Ab
/- Sorting rows that know their numbers: the plain law (a stable sort). -/
namespace Go.Proofs.Ytfplalbognalkaa.Ab.NS
open Go
abbrev Row:=Nat×Ab.Row
abbrev r0:Row:=(0, [])
def rcmp (a b:Row):Int:=Ab.rcmp a.2 b.2
theorem rcmp_neg (l m:Row):rcmp l m= -rcmp m l:=Ab.rcmp_neg _ _
theorem rcmp_trans {l m n:Row} (h1:rcmp l m<=0) (h2:rcmp m n<=0):rcmp l n<=0:=Ab.rcmp_trans h1 h2
def le (a b:Row):Prop:=rcmp a b<0\/(rcmp a b=0/\a.1<=b.1)
instance (a b:Row):Decidable (le a b):=by unfold le;infer_instance
theorem le.cmp {a b:Row} (h:le a b):rcmp a b<=0:=by rcases h with h | h <;>omega
theorem le_trans {a b c:Row} (h1:le a b) (h2:le b c):le a c:=by
  have h3:=rcmp_trans h1.cmp h2.cmp
  have n1:=rcmp_neg a c
  have n2:=rcmp_neg a b
  have n3:=rcmp_neg b c
  by_cases q:rcmp a c=0
  · have e1:rcmp b a<=0:=rcmp_trans h2.cmp (show rcmp c a<=0 by omega)
    have e2:rcmp c b<=0:=rcmp_trans (show rcmp c a<=0 by omega) h1.cmp
    refine .inr ⟨q,?_⟩
    rcases h1 with h1 | h1 <;>rcases h2 with h2 | h2 <;>omega
  · exact .inl (by omega)
def leR (a b:Row):Bool:=decide (le a b)
def srt (l:List Row):List Row:=l.mergeSort leR
end Go.Proofs.Ytfplalbognalkaa.Ab.NS
/- Sorting: insertion. -/
namespace Go.Proofs.Ytfplalbognalkaa.Ab.NS
open Go
end Go.Proofs.Ytfplalbognalkaa.Ab.NS
/- Sorting: stretches changed about. -/
namespace Go.Proofs.Ytfplalbognalkaa.Ab.NS
open Go
end Go.Proofs.Ytfplalbognalkaa.Ab.NS
/- Sorting: two stretches turned. -/
namespace Go.Proofs.Ytfplalbognalkaa.Ab.NS
open Go
end Go.Proofs.Ytfplalbognalkaa.Ab.NS
/- Sorting: one row put among sorted ones. -/
namespace Go.Proofs.Ytfplalbognalkaa.Ab.NS
open Go
end Go.Proofs.Ytfplalbognalkaa.Ab.NS
/- Sorting: sorted ones, and one row behind them; the plain law of a merge. -/
namespace Go.Proofs.Ytfplalbognalkaa.Ab.NS
open Go
end Go.Proofs.Ytfplalbognalkaa.Ab.NS
/- Sorting: two sorted stretches put together. -/
namespace Go.Proofs.Ytfplalbognalkaa.Ab.NS
open Go
end Go.Proofs.Ytfplalbognalkaa.Ab.NS
/- Sorting: blocks, then stretches of twice the size. -/
namespace Go.Proofs.Ytfplalbognalkaa.Ab.NS
open Go
def blkN (k:Nat):Nat->List Row->List Row
  | 0,_=> []
  | m+1,l=>if l= [] then [] else srt (l.take k)++blkN k m (l.drop k)
def blk (k:Nat) (l:List Row):List Row:=blkN k l.length l
end Go.Proofs.Ytfplalbognalkaa.Ab.NS
/- Rows are sorted: the program's function. -/
namespace Go.Proofs.Ytfplalbognalkaa.Ab.NS
open Go
end Go.Proofs.Ytfplalbognalkaa.Ab.NS
/- The program's sort of rows, with numbers. -/
namespace Go.Proofs.Ytfplalbognalkaa.Ab.NS
open Go
theorem tok_side {es:List E} {q0 q1:Nat} {e:E} :Side (fun _=>es.map .e) (fun _=> [.ids q0]) (fun _=> .e e) (fun _=> [.ids q1]):=
  ⟨fun t=>by rw [rens_e],by rw [lts_e],fun t=>rfl,by intro o ho;rw [List.mem_singleton] at ho;subst ho;rfl,fun t=>rfl,fun t=>rfl,Nat.le_refl _⟩
end Go.Proofs.Ytfplalbognalkaa.Ab.NS
/- The program's sort of rows, whole, with numbers. -/
namespace Go.Proofs.Ytfplalbognalkaa.Ab.NS
open Go
def nums:Nat->List Ab.Row->List Row
  | _, []=> []
  | q,r::l=>(q,r)::nums (q+1) l
theorem nums_len: ∀(q:Nat) (l:List Ab.Row),(nums q l).length=l.length
  | _, []=>rfl
  | q,_::l=>by simp [nums,nums_len (q+1) l]
theorem nums_get: ∀(q:Nat) (l:List Ab.Row) (j:Nat),(nums q l)[j]?=l[j]?.map fun r=>(q+j,r)
  | _, [],j=>by simp [nums]
  | q,r::l,0=>by simp [nums]
  | q,r::l,j+1=>by
    simp only [nums,List.getElem?_cons_succ,nums_get (q+1) l j]
    congr 1
    funext r
    congr 1
    omega
def nrow (r:Row):List E:= [.fs r.1 (r.2.map vr)]
end Go.Proofs.Ytfplalbognalkaa.Ab.NS
/- Rows copied by the law, with numbers. -/
namespace Go.Proofs.Ytfplalbognalkaa.Ab.NS
open Go
def rowsN (q:Nat) (l:List Ab.Row):List (List E):=(nums q l).map nrow
set_option maxRecDepth 100000 in
theorem ok58 (q0:Nat) (l:List (Bool×Int)) (es:List (List E)) (he:es=l.map vr) (hlen:es.length<=1048576):Proc Try.prog 58 (fun _=> [.e (.sl es)]) (fun _=> [.ids q0]) (fun _=> .e (.fs q0 es)) (fun _=> [.ids (q0+1)]):=procOf mixed p58 (tok_side (es:= [.sl es])) fun A P hA hP=>(by
  have hl1:es.length=l.length:=by rw [he];simp
  have hes: ∀e∈es,e.length=2:=by
    rw [he]
    intro e h
    obtain ⟨p,_,rfl⟩:=List.mem_map.1 h
    rfl
  cbv
  repeat' first | with_reducible rfl | with_reducible refine And.intro ?_ ?_ | ((with_reducible intro hcc);first | (cases hcc;done) | skip) | ((with_reducible first | show goC _ _ _ _ _ _ _ _ | show goOps _ _ _ _ _ | show goD _ _ _ _ _ _);cbv) | ((with_reducible show okWr _ _=_);rfl) | ((with_reducible first | refine callK_f hA hP (ok110 _ _) ?_ ?_ ?_);exact rfl;exact rfl;cbv) | ((with_reducible first | refine hA.fin_pl _ _ _ ?_ | refine hA.len _ _ _ _ _ fun z hz hb=>?_ | refine hA.off _ _ _ _ fun b hb=>?_ | refine hA.rep _ _ _ fun ds m hds hm=>?_ | refine hA.alt _ _ (Or.inl ?_));cbv) | ((with_reducible first | refine hA.st _ _ _ _ _ ⟨?_,fun ds hds=>?_⟩ | refine hA.sapp _ _ _ ⟨?_,fun sl hsl=>?_⟩);rotate_left;cbv) | (simp only [hA.lits];cbv)
  all_goals try simp only [hA.ar,inR,n_cast,Int.ofNat_eq_natCast,Option.getD_some,Option.getD_none] at *
  · omega
  · omega
  · refine hA.loopI (fun n s=> ∃(i:Int) (xs:List (List E)),0<=i/\n+i=es.length/\xs.length=es.length/\(∀e∈xs,e.length=2)/\(∀j:Nat,j<i->xs[j]?=es[j]?)/\
        s=⟨[(4,.int i),(3,.bs 1 0 m 2),(2,.zs),(0,.e (.sl es))], [.ids q0,.box (xs.flatten.map .e)]⟩) es.length _
      (Weak.keep (env':= [(4,.int 0),(3,.bs 1 0 m 2),(2,.zs),(0,.e (.sl es))]) ⟨rfl,rfl,rfl,rfl,trivial⟩)
      ⟨0,List.replicate m [E.bool false,E.int 0],by omega,by omega,by simp;omega,by simp,fun j hj=>by omega,by rw [<-buf_zero,hm];rw [hds];rfl⟩ ?_
    rintro n s K ⟨i,xs,h0,h1,h2,h3,h4,rfl⟩ hK
    obtain ⟨ys,hys⟩: ∃ys,ys=xs.flatten.map D.e:=⟨_,rfl⟩
    rw [<-hys]
    cbv
    repeat' first | with_reducible rfl | with_reducible refine And.intro ?_ ?_ | ((with_reducible intro hcc);first | (cases hcc;done) | skip) | ((with_reducible first | show goC _ _ _ _ _ _ _ _ | show goOps _ _ _ _ _ | show goD _ _ _ _ _ _);cbv) | ((with_reducible show okWr _ _=_);rfl) | ((with_reducible first | refine callK_f hA hP (ok110 _ _) ?_ ?_ ?_);exact rfl;exact rfl;cbv) | ((with_reducible refine hA.finv _ _ _ _ _ (finv_bsFs (t:=0) (es:=es) rfl ?_ ?_ hes))) | ((with_reducible refine hA.row es _ _ ?_);have hin:(0:Int)<=i/\i<es.length:=(by simp only [hA.lt,decide_eq_true_eq,n_cast] at *;omega);obtain ⟨⟨b1,v1⟩,e1,q1⟩:=row_val he hin;refine ⟨hin,fun row hrow=>?_⟩;rw [e1] at hrow;subst hrow;cbv) | ((with_reducible first | refine hA.fin_pl _ _ _ ?_ | refine hA.len _ _ _ _ _ fun z hz hb=>?_ | refine hA.off _ _ _ _ fun b hb=>?_ | refine hA.rep _ _ _ fun ds m hds hm=>?_ | refine hA.alt _ _ (Or.inl ?_));cbv) | ((with_reducible first | refine hA.st _ _ _ _ _ ⟨?_,fun ds hds=>?_⟩ | refine hA.sapp _ _ _ ⟨?_,fun sl hsl=>?_⟩);rotate_left;cbv) | (simp only [hA.lits];cbv)
    all_goals try simp only [hA.ar,inR,n_cast,Int.ofNat_eq_natCast,Option.getD_some,Option.getD_none] at *
    · exact h0
    · show i<(m:Int)
      omega
    · omega
    · have hb':b=i.toNat * 2:=by omega
      have hrow:es[i.toNat]?=some [E.bool b1,E.int v1]:=by
        have:i.toNat<es.length:=by omega
        rw [<-e1];simp [List.getD,this]
      refine hK _ (n-1) _ (by omega) (Weak.keep (env':= [(4,.int (i+1)),(3,.bs 1 0 m 2),(2,.zs),(0,.e (.sl es))]) ⟨rfl,rfl,rfl,rfl,trivial⟩)
        ⟨i+1,xs.set i.toNat [E.bool b1,E.int v1],by omega,by omega,by simp [h2],?_,fun j hj=>?_,?_⟩
      · intro e h
        rcases List.mem_or_eq_of_mem_set h with h | rfl
        · exact h3 e h
        · rfl
      · by_cases hji:(j:Int)<i
        · rw [List.getElem?_set_ne (show i.toNat≠j by omega)];exact h4 j hji
        · have:j=i.toNat:=by omega
          subst this
          rw [List.getElem?_set_self (show i.toNat<xs.length by omega),hrow]
      · congr 3
        rw [hds,hys,hb']
        congr 1
        exact buf_set (k:=2) (by omega) h3 (i:=i.toNat) (show i.toNat<xs.length by omega) (r:= [E.bool b1,E.int v1]) rfl
    · have:ys.length=xs.length * 2:=by rw [hys,List.length_map,flatten_len h3]
      omega
    · have hxe:xs=es:=by
        refine List.ext_getElem? fun j=>?_
        by_cases hj:(j:Int)<i
        · exact h4 j hj
        · rw [List.getElem?_eq_none (by grind),List.getElem?_eq_none (by grind)]
      rw [hys,hxe];rfl
    · omega)
set_option maxRecDepth 100000 in
set_option maxHeartbeats 1000000 in
theorem ok18 (q0:Nat) (l:List (List (Bool×Int))) (es:List (List E)) (he:es=l.map rsr) (hlen:es.length<=1048576) (hb2: ∀r∈l,r.length<=1048576):
    Proc Try.prog 18 (fun _=> [.e (.sl es)]) (fun _=> [.ids q0]) (fun _=> .e (.fs (q0+es.length) (rowsN q0 l))) (fun _=> [.ids (q0+es.length+1)]):=procOf mixed p18 (tok_side (es:= [.sl es])) fun A P hA hP=>(by
  obtain ⟨ts,hts⟩: ∃ts,ts=rowsN q0 l:=⟨_,rfl⟩
  have htl:ts.length=es.length:=by rw [hts,he,rowsN,List.length_map,nums_len,List.length_map]
  have htk: ∀e∈ts,e.length=1:=by
    rw [hts]
    intro e h
    obtain ⟨p,_,rfl⟩:=List.mem_map.1 h
    rfl
  obtain ⟨qe,hqe⟩: ∃q,q=q0+es.length:=⟨_,rfl⟩
  rw [<-hts,<-hqe]
  have hl1:es.length=l.length:=by rw [he];simp
  have hes: ∀e∈es,e.length=1:=by
    rw [he]
    intro e h
    obtain ⟨p,_,rfl⟩:=List.mem_map.1 h
    rfl
  cbv
  repeat' first | with_reducible rfl | with_reducible refine And.intro ?_ ?_ | ((with_reducible intro hcc);first | (cases hcc;done) | skip) | ((with_reducible first | show goC _ _ _ _ _ _ _ _ | show goOps _ _ _ _ _ | show goD _ _ _ _ _ _);cbv) | ((with_reducible show okWr _ _=_);rfl) | ((with_reducible first | refine hA.fin_pl _ _ _ ?_ | refine hA.len _ _ _ _ _ fun z hz hb=>?_ | refine hA.off _ _ _ _ fun b hb=>?_ | refine hA.rep _ _ _ fun ds m hds hm=>?_ | refine hA.alt _ _ (Or.inl ?_));cbv) | ((with_reducible first | refine hA.st _ _ _ _ _ ⟨?_,fun ds hds=>?_⟩ | refine hA.sapp _ _ _ ⟨?_,fun sl hsl=>?_⟩);rotate_left;cbv) | (simp only [hA.lits];cbv)
  all_goals try simp only [hA.ar,inR,n_cast,Int.ofNat_eq_natCast,Option.getD_some,Option.getD_none] at *
  · omega
  · omega
  · refine hA.loopI (fun n s=> ∃(i:Int) (qi:Nat) (xs:List (List E)),0<=i/\n+i=es.length/\qi=q0+i.toNat/\xs.length=es.length/\(∀e∈xs,e.length=1)/\(∀j:Nat,j<i->xs[j]?=ts[j]?)/\
        s=⟨[(4,.int i),(3,.bs 1 0 m 1),(2,.zs),(0,.e (.sl es))], [.ids qi,.box (xs.flatten.map .e)]⟩) es.length _
      (Weak.keep (env':= [(4,.int 0),(3,.bs 1 0 m 1),(2,.zs),(0,.e (.sl es))]) ⟨rfl,rfl,rfl,rfl,trivial⟩)
      ⟨0,q0,List.replicate m [E.sl []],by omega,by omega,by simp,by simp;omega,by simp,fun j hj=>by omega,by rw [<-buf_zero,hm];rw [hds];rfl⟩ ?_
    rintro n s K ⟨i,qi,xs,h0,h1,hq,h2,h3,h4,rfl⟩ hK
    obtain ⟨ys,hys⟩: ∃ys,ys=xs.flatten.map D.e:=⟨_,rfl⟩
    have hyl:ys.length=xs.length * 1:=by rw [hys,List.length_map,flatten_len h3]
    rw [<-hys]
    by_cases hin:(0:Int)<=i/\i<es.length
    · obtain ⟨r1,e1,q1⟩:=row_at he hin
      obtain ⟨x1,hx1⟩: ∃x,x=r1.map vr:=⟨_,rfl⟩
      have e1:es.getD i.toNat []= [E.sl x1]:=e1.trans (by rw [hx1])
      obtain ⟨qj,hqj⟩: ∃q,q=qi+1:=⟨_,rfl⟩
      have hc:Proc Try.prog 58 (fun _=> [.e (.sl x1)]) (fun _=> [.ids qi]) (fun _=> .e (.fs qi x1)) (fun _=> [.ids qj]):=by
        rw [hqj]
        exact ok58 qi r1 x1 hx1 (by have:=hb2 r1 (List.mem_of_getElem? q1);rw [hx1,List.length_map];omega)
      have hrow0:ts[i.toNat]?=some [.fs qi x1]:=by rw [hts,rowsN,List.getElem?_map,nums_get,q1,hx1,hq];rfl
      clear hts
      cbv
      repeat' first | with_reducible rfl | with_reducible refine And.intro ?_ ?_ | ((with_reducible intro hcc);first | (cases hcc;done) | skip) | ((with_reducible first | show goC _ _ _ _ _ _ _ _ | show goOps _ _ _ _ _ | show goD _ _ _ _ _ _);cbv) | ((with_reducible show okWr _ _=_);rfl) | ((with_reducible show A.call _ _ _ _ _ 58 _ _ _);have hc:=hc;refine callK_pr hA hP [0] (by rfl) (by exact ⟨rfl,trivial⟩) (Wks.refl _) ?_ (fun _ _=>hc) hc.side;cbv) | ((with_reducible refine hA.row es _ _ ⟨hin,fun row hrow=>?_⟩);rw [e1] at hrow;subst hrow;cbv) | ((with_reducible first | refine hA.fin_pl _ _ _ ?_ | refine hA.len _ _ _ _ _ fun z hz hb=>?_ | refine hA.off _ _ _ _ fun b hb=>?_ | refine hA.rep _ _ _ fun ds m hds hm=>?_ | refine hA.alt _ _ (Or.inl ?_));cbv) | ((with_reducible first | refine hA.st _ _ _ _ _ ⟨?_,fun ds hds=>?_⟩ | refine hA.sapp _ _ _ ⟨?_,fun sl hsl=>?_⟩);rotate_left;cbv) | (simp only [hA.lits];cbv)
      all_goals try simp only [hA.ar,inR,n_cast,Int.ofNat_eq_natCast,Option.getD_some,Option.getD_none] at *
      all_goals first
        | (show _<(m:Int);omega)
        | omega
        | (clear hK h4 he;grind;done)
        | (have hb':b=i.toNat * 1:=by omega
           refine hK _ (n-1) _ (by omega) (Weak.keep (env':= [(4,.int (i+1)),(3,.bs 1 0 m 1),(2,.zs),(0,.e (.sl es))]) ⟨rfl,rfl,rfl,rfl,trivial⟩)
             ⟨i+1,qj,xs.set i.toNat [.fs qi x1],by omega,by omega,by omega,by simp [h2],fun e h=>?_,fun j hj=>?_,?_⟩
           · rcases List.mem_or_eq_of_mem_set h with h | rfl
             · exact h3 e h
             · rfl
           · by_cases hji:(j:Int)<i
             · rw [List.getElem?_set_ne (show i.toNat≠j by omega)];exact h4 j hji
             · have:j=i.toNat:=by omega
               subst this
               rw [List.getElem?_set_self (show i.toNat<xs.length by omega),hrow0]
           · congr 3
             rw [hds,hys,hb']
             congr 1
             exact buf_set (k:=1) (by omega) h3 (i:=i.toNat) (show i.toNat<xs.length by omega) (r:= [.fs qi x1]) rfl)
    · have hxe:xs=ts:=by
        refine List.ext_getElem? fun j=>?_
        by_cases hj:(j:Int)<i
        · exact h4 j hj
        · rw [List.getElem?_eq_none (by omega),List.getElem?_eq_none (by omega)]
      have hqq:qi=qe:=by omega
      subst hqq
      cbv
      repeat' first | with_reducible rfl | with_reducible refine And.intro ?_ ?_ | ((with_reducible intro hcc);first | (cases hcc;done) | skip) | ((with_reducible first | show goC _ _ _ _ _ _ _ _ | show goOps _ _ _ _ _ | show goD _ _ _ _ _ _);cbv) | ((with_reducible show okWr _ _=_);rfl) | (exfalso;simp only [hA.lt,hA.sub,decide_eq_true_eq,decide_eq_false_iff_not,n_cast] at *;omega) | ((with_reducible refine hA.finv _ _ _ _ _ (finv_bsFs (t:=0) (es:=ts) rfl ?_ ?_ htk))) | ((with_reducible first | refine hA.fin_pl _ _ _ ?_ | refine hA.len _ _ _ _ _ fun z hz hb=>?_ | refine hA.off _ _ _ _ fun b hb=>?_ | refine hA.rep _ _ _ fun ds m hds hm=>?_ | refine hA.alt _ _ (Or.inl ?_));cbv) | ((with_reducible first | refine hA.st _ _ _ _ _ ⟨?_,fun ds hds=>?_⟩ | refine hA.sapp _ _ _ ⟨?_,fun sl hsl=>?_⟩);rotate_left;cbv) | (simp only [hA.lits];cbv)
      all_goals try simp only [hA.ar,inR,n_cast,Int.ofNat_eq_natCast,Option.getD_some,Option.getD_none] at *
      all_goals first
        | (rw [hys,hxe];rfl)
        | omega
        | (clear hK h4 he;grind;done)
        | (trace_state;fail))
end Go.Proofs.Ytfplalbognalkaa.Ab.NS
/- Trees in memory that only their holder knows: each slice has a block of its own. -/
namespace Go.Proofs.Ytfplalbognalkaa.Ab
open Go
inductive TreeAt (w:World):Value->List Nat->E->Prop
  | v {x} (h:okV x=true):TreeAt w x [] (.v x)
  | nil {a:Option Addr} {cap i:Nat} (h:a=none->cap=0):TreeAt w (.slice a 0 cap) [] (.fs i [])
  | fs {b n cap k i:Nat} {es:List (List E)} {cs:Array Value} {T:TypeId} (bss:List (List Nat)) (hn:es.length=n) (hc:n<=cap) (hm:n<=maxN) (hk: ∀e∈es,e.length=k)
      (hb:w.heap[b]?=some (.cells cs T (0,0))) (hsz:cap * k<=cs.size) (hl:bss.length=n * k)
      (hr: ∀(j:Nat) d,es.flatten[j]?=some d->TreeAt w (cs.getD j undef) (bss.getD j []) d):TreeAt w (.slice (some ⟨b,0,none⟩) n cap) (b::bss.flatten) (.fs i es)
theorem TreeAt.cell {w v bs e} (h:TreeAt w v bs e):v.oneCell'=true:=by
  cases h <;>first | exact okV.cell (by assumption) | rfl
theorem mem_getD_flatten {bss:List (List Nat)} {j b:Nat} (h:b∈bss.getD j []):b∈bss.flatten:=by
  rcases Nat.lt_or_ge j bss.length with q | q
  · rw [List.getD,List.getElem?_eq_getElem q] at h
    exact List.mem_flatten.2 ⟨_,List.getElem_mem q,h⟩
  · rw [List.getD,List.getElem?_eq_none q] at h
    cases h
theorem TreeAt.frame {w w':World} {v:Value} {bs:List Nat} {e:E} (h:TreeAt w v bs e):(∀b∈bs,w'.heap[b]?=w.heap[b]?)->TreeAt w' v bs e:=by
  induction h with
  | v h=>exact fun _=> .v h
  | nil h=>exact fun _=> .nil h
  | fs bss hn hc hm hk hb hsz hl hr ih=>
    intro hw
    exact .fs bss hn hc hm hk (by rw [hw _ (by simp)];exact hb) hsz hl fun j d hd=>ih j d hd fun b hb=>hw b (by simp only [List.mem_cons];exact .inr (mem_getD_flatten hb))
theorem TreeAt.rvE {w:World} {v:Value} {bs:List Nat} {e:E} (h:TreeAt w v bs e) {G:Gh} :(∀b∈bs,∀o,G.pub b o)->RvE w G v e.un:=by
  induction h with
  | v h=>exact fun _=> .v h
  | nil h=>exact fun _=> .nils h
  | @fs b n cap k i es cs T bss hn hc hm hk hb hsz hl hr ih=>
    intro hp
    have hfl:es.flatten.length=n * k:=by rw [flatten_len hk,hn]
    refine .sl (k:=k) (fun j=>cs.getD j undef) (by rw [unss_map,List.length_map];exact hn) hc hm (fun e he=>?_) (fun j hj=>⟨hp b (by simp) _,?_⟩) fun j d hd=>?_
    · rw [unss_map] at he
      obtain ⟨e0,h0,rfl⟩:=List.mem_map.1 he
      rw [List.length_map];exact hk _ h0
    · have hjc:j<cs.size:=Nat.lt_of_lt_of_le hj (Nat.le_trans (Nat.mul_le_mul_right k hc) hsz)
      rw [Nat.zero_add]
      simp [World.cell?,hb,hjc,Array.getD]
    · rw [unss_flat,List.getElem?_map] at hd
      obtain ⟨d0,h0,rfl⟩:=Option.map_eq_some_iff.1 hd
      exact ih j d0 h0 fun b' hb' o=>hp b' (by simp only [List.mem_cons];exact .inr (mem_getD_flatten hb')) o
mutual
def E.nums:E->Option (List Nat)
  | .v _=>some []
  | .fs _ []=>some []
  | .fs i es=>(numss es).map fun l=>i::l
  | _=>none
def numsr:List E->Option (List Nat)
  | []=>some []
  | e::r=>match e.nums,numsr r with
    | some a,some b=>some (a++b)
    | _,_=>none
def numss:List (List E)->Option (List Nat)
  | []=>some []
  | e::r=>match numsr e,numss r with
    | some a,some b=>some (a++b)
    | _,_=>none
end
theorem numss_flat: ∀es:List (List E),∀ns,numss es=some ns->numsr es.flatten=some ns
  | [],ns,h=>h
  | e::r,ns,h=>by
    have app: ∀(a b:List E) (x y:List Nat),numsr a=some x->numsr b=some y->numsr (a++b)=some (x++y):=by
      intro a
      induction a with
      | nil=>intro b x y h1 h2;simp only [numsr,Option.some.injEq] at h1;subst h1;exact h2
      | cons c a ih=>
        intro b x y h1 h2
        simp only [numsr] at h1
        split at h1
        · rename_i p q e1 e2
          cases h1
          simp only [List.cons_append,numsr,e1,ih b q y e2 h2,List.append_assoc]
        · cases h1
    simp only [numss] at h
    split at h
    · rename_i a b e1 e2
      cases h
      exact app _ _ _ _ e1 (numss_flat r b e2)
    · cases h
def Blks (G:Gh):List Nat->List Nat->Prop
  | [], []=>True
  | j::ns,b::bs=>(∃z,G.sg j=some (b,z))/\Blks G ns bs
  | _,_=>False
theorem Blks.app {G:Gh} : ∀ {n1 b1 n2 b2:List Nat},Blks G n1 b1->Blks G n2 b2->Blks G (n1++n2) (b1++b2)
  | [], [],_,_,_,h=>h
  | _::_,_::_,_,_,h1,h2=>⟨h1.1,Blks.app h1.2 h2⟩
  | [],_::_,_,_,h,_=>h.elim
  | _::_, [],_,_,h,_=>h.elim
theorem Blks.mem {G:Gh} : ∀ {ns bs:List Nat} {b:Nat},Blks G ns bs->b∈bs-> ∃j∈ns,∃z,G.sg j=some (b,z)
  | _::_,_::_,b,h,hb=>by
    rcases List.mem_cons.1 hb with rfl | hb
    · exact ⟨_,List.mem_cons_self,h.1⟩
    · obtain ⟨j,h1,h2⟩:=Blks.mem h.2 hb
      exact ⟨j,List.mem_cons_of_mem _ h1,h2⟩
  | [], [],_,_,hb=>by cases hb
  | [],_::_,_,h,_=>h.elim
theorem Blks.nodup {G:Gh} (hi: ∀i j b c,G.sg i=some b->G.sg j=some c->b.1=c.1->i=j): ∀ {ns bs:List Nat},Blks G ns bs->ns.Nodup->bs.Nodup
  | [], [],_,_=>List.nodup_nil
  | j::ns,b::bs,h,hn=>by
    obtain ⟨h1,h2⟩:=List.nodup_cons.1 hn
    refine List.nodup_cons.2 ⟨fun hb=>?_,Blks.nodup hi h.2 h2⟩
    obtain ⟨j',m1,z',e'⟩:=h.2.mem hb
    obtain ⟨z,e⟩:=h.1
    have:=hi _ _ _ _ e e' rfl
    subst this
    exact h1 m1
  | [],_::_,h,_=>h.elim
  | _::_, [],h,_=>h.elim
theorem trees_of {w:World} {G:Gh} : ∀(l:List E) (u:Nat->Value) (ns:List Nat),(∀(j:Nat) d,l[j]?=some d-> ∀ns,d.nums=some ns-> ∃bs,TreeAt w (u j) bs d/\Blks G ns bs)->numsr l=some ns->
    ∃bss:List (List Nat),bss.length=l.length/\(∀(j:Nat) d,l[j]?=some d->TreeAt w (u j) (bss.getD j []) d)/\Blks G ns bss.flatten
  | [],_,ns,_,hn=>by
    simp only [numsr,Option.some.injEq] at hn
    subst hn
    exact ⟨[],rfl,fun j d h=>by simp at h,trivial⟩
  | e::l,u,ns,h,hn=>by
    simp only [numsr] at hn
    split at hn
    · rename_i a b e1 e2
      cases hn
      obtain ⟨bs,t1,t2⟩:=h 0 e rfl a e1
      obtain ⟨bss,q1,q2,q3⟩:=trees_of l (fun j=>u (j+1)) b (fun j d hd=>h (j+1) d (by simpa using hd)) e2
      refine ⟨bs::bss,by simp [q1],fun j d hd=>?_,by rw [List.flatten_cons];exact t2.app q3⟩
      cases j with
      | zero=>simp at hd;subst hd;exact t1
      | succ j=>exact q2 j d (by simpa using hd)
    · cases hn
theorem RvE.tree {w:World} {G:Gh} (hs: ∀j b,G.sg j=some b-> ∃cs T,w.heap[b.1]?=some (.cells cs T (0,0))/\b.2<=cs.size) {v:Value} {e:E} (r:RvE w G v e): ∀ns,e.nums=some ns-> ∃bs,TreeAt w v bs e/\Blks G ns bs:=by
  induction r with
  | v h=>intro ns hn;simp only [E.nums,Option.some.injEq] at hn;subst hn;exact ⟨[],.v h,trivial⟩
  | nils h=>intro ns hn;simp [E.nums] at hn
  | sl=>intro ns hn;simp [E.nums] at hn
  | iv=>intro ns hn;simp [E.nums] at hn
  | ia=>intro ns hn;simp [E.nums] at hn
  | fnils h=>intro ns hn;simp only [E.nums,Option.some.injEq] at hn;subst hn;exact ⟨[],.nil h,trivial⟩
  | @fs i b n cap k es z u hg hz hn hc hm hk hp hr ih=>
    intro ns hns
    by_cases he:es= []
    · subst he
      simp only [E.nums,Option.some.injEq] at hns
      subst hns
      subst hn
      exact ⟨[],.nil fun h=>(by cases h),trivial⟩
    · have hns': ∃l,numss es=some l/\ns=i::l:=by
        cases es with
        | nil=>exact absurd rfl he
        | cons a es=>
          simp only [E.nums,Option.map_eq_some_iff] at hns
          obtain ⟨l,h1,h2⟩:=hns
          exact ⟨l,h1,h2.symm⟩
      obtain ⟨l,hl,rfl⟩:=hns'
      obtain ⟨cs,T,hcs,hsz⟩:=hs i _ hg
      have hfl:es.flatten.length=n * k:=by rw [flatten_len hk,hn]
      obtain ⟨bss,q1,q2,q3⟩:=trees_of es.flatten u l ih (numss_flat es l hl)
      refine ⟨b::bss.flatten,.fs (T:=T) bss hn hc hm hk hcs (Nat.le_trans hz hsz) (q1.trans hfl) fun j d hd=>?_,⟨z,hg⟩,q3⟩
      have hj:j<n * k:=by rw [<-hfl];exact (List.getElem?_eq_some_iff.1 hd).1
      have hc2:=(hp j hj).2
      have hjc:j<cs.size:=Nat.lt_of_lt_of_le hj (Nat.le_trans (Nat.mul_le_mul_right k hc) (Nat.le_trans hz hsz))
      rw [Nat.zero_add] at hc2
      simp only [World.cell?,hcs] at hc2
      have hu:cs.getD j undef=u j:=by
        simp only [Array.getD,hjc,dite_true]
        simpa [hjc] using hc2
      rw [hu]
      exact q2 j d hd
end Go.Proofs.Ytfplalbognalkaa.Ab
/- Calls whose answer is a tree that only the caller knows. -/
namespace Go.Proofs.Ytfplalbognalkaa.Ab
open Go
def Gh.more (G:Gh) (f:Nat) (v:Value) (bs:List Nat):Gh:=⟨G.pub,G.blk,G.sg,fun i=>if i=f then v else G.rv i,fun i=>if i=f then bs else G.rb i⟩
theorem frame_new {w w':World} {G:Gh} {h h':Hp} {f:Nat} {v:Value} {bs:List Nat} {R:World->Value->List Nat->Prop} (hi:Inv w G h) (hf:h f= .dead) (h1:h' f= .res R) (h2: ∀j,j≠f->h' j=h j)
    (os:w'.os=w.os) (tape:w'.tape=w.tape) (output:w'.output=w.output) (size:w.heap.size<=w'.heap.size) (row: ∀b,b<w.heap.size->w'.heap[b]?=w.heap[b]?)
    (hbs: ∀b∈bs,w.heap.size<=b/\b<w'.heap.size) (hR: ∀w2:World,(∀b∈bs,w2.heap[b]?=w'.heap[b]?)->R w2 v bs):
    Inv w' (G.more f v bs) h'/\Ext w G h w' (G.more f v bs) h':=by
  have hne: ∀j,(h' j).has=true->j≠f/\(h j).has=true:=fun j hj=>by
    have q:j≠f:=fun q=>by rw [q,h1] at hj;cases hj
    exact ⟨q,by rw [<-h2 j q];exact hj⟩
  have nd: ∀ {j o},h j=o->o≠ .dead->h' j=o:=fun {j o} e q=>by
    rw [h2 j (fun q2=>q (by rw [<-e,q2,hf]))];exact e
  have back: ∀ {j o},h' j=o->(∀R,o≠ .res R)->h j=o:=fun {j o} e q=>by
    rw [<-h2 j (fun q2=>q R (by rw [<-e,q2,h1]))];exact e
  have ext:Ext w G h w' (G.more f v bs) h':= {
    os:=os
    tape:=tape
    output:=output
    size:=size
    sgm:=fun _ _ e=>e
    idm:=fun j m e=>⟨m,nd e (by simp)⟩
    rvm:=fun j R e=>⟨⟨R,nd e (by simp)⟩,if_neg (fun q=>by rw [q,hf] at e;cases e)⟩
    rbnew:=fun j R' e b hb=>by
      simp only [Gh.more] at hb
      split at hb
      · exact .inr (hbs b hb).1
      · rename_i q
        exact .inl ⟨j,R',by rw [<-h2 j q];exact e,hb⟩
    idn:=fun j m e=>⟨j,m,back e (by simp)⟩
    sgn:=fun _=>rfl
    sgw:=fun _ _ e=> .inl e
    pub:=fun b o p=>⟨p,by simp only [World.cell?];rw [row b (hi.publt b o p)]⟩
    box:=fun i ds e=>⟨⟨ds,nd e (by simp),rfl⟩,rfl⟩
    tok:=fun i n k e=>⟨n,nd e (by simp),Nat.le_refl _,fun _ hn=>⟨rfl,by simp only [World.shape?];rw [row _ (hi.lt i (by rw [e];simp [O.has,hn]))]⟩⟩
    others:=fun b hb _ _=>row b hb
    new:=fun i hi=> .inl ⟨i,(hne i hi).2,rfl⟩
    vec:=fun i b k ds e=> .inr ⟨ds,nd e (by simp),Nat.le_refl _,fun hb=>⟨rfl,by simp only [World.shape?];rw [row _ (hi.lt i (by rw [e];exact hb))]⟩⟩
    gone:=fun _ e=>nd e (by simp)
    smap:=fun _ l e=>⟨⟨l,nd e (by simp)⟩,rfl⟩
    pubnew:=fun b o p=> .inl p}
  refine ⟨⟨fun i hh=>Nat.lt_of_lt_of_le (hi.lt i (hne i hh).2) size,fun i j a c e=>hi.inj i j (hne i a).2 (hne j c).2 e,fun b o p=>Nat.lt_of_lt_of_le (hi.publt b o p) size,fun i ds e=>?_,fun i n k e hn=>?_,fun i b k ds e=>?_,fun i l e=>?_,
    ⟨fun j b e=>?_,hi.x.sgi,fun i m e=>hi.x.ids i m (back e (by simp)),fun i j m m' a c=>hi.x.idu i j m m' (back a (by simp)) (back c (by simp)),fun i R' e=>?_⟩⟩,ext⟩
  · obtain ⟨a1,cs,T,a2,a3,a4⟩:=hi.box i ds (back e (by simp))
    exact ⟨a1,cs,T,by rw [<-a2];exact row _ (hi.lt i (hne i (by rw [e];rfl)).2),a3,fun j c d hc hd=>⟨(a4 j c d hc hd).1.ext ext,(a4 j c d hc hd).2⟩⟩
  · obtain ⟨⟨cs,T,a1⟩,a2⟩:=hi.front i n k (back e (by simp)) hn
    exact ⟨⟨cs,T,by rw [<-a1];exact row _ (hi.lt i (hne i (by rw [e];simp [O.has,hn])).2)⟩,a2⟩
  · obtain ⟨a0,a⟩:=hi.vec i b k ds (back e (by simp))
    refine ⟨a0,fun hb=>?_⟩
    obtain ⟨a1,cs,T,a2,a3,a4⟩:=a hb
    exact ⟨a1,cs,T,by rw [<-a2];exact row _ (hi.lt i (hne i (by rw [e];exact hb)).2),a3,fun j c d hc hd=>⟨(a4 j c d hc hd).1.ext ext,(a4 j c d hc hd).2⟩⟩
  · obtain ⟨a1,es,ck,a2,a3,a4⟩:=hi.smap i l (back e (by simp))
    exact ⟨a1,es,ck,by rw [<-a2];exact row _ (hi.lt i (hne i (by rw [e];rfl)).2),a3,fun j e p a b=>⟨(a4 j e p a b).1,RvE.mono (G':=G.more f v bs) ext.pub ext.sgm (a4 j e p a b).2⟩⟩
  · obtain ⟨a,c,d⟩:=hi.x.sgs j b e
    exact ⟨Nat.lt_of_lt_of_le a size,fun i hh=>c i (hne i hh).2,by rw [row _ a];exact d⟩
  · by_cases q:i=f
    · subst q
      rw [h1] at e
      cases e
      show (∀w2:World,(∀b∈(if i=i then bs else G.rb i),w2.heap[b]?=w'.heap[b]?)->R w2 (if i=i then v else G.rv i) (if i=i then bs else G.rb i))/\ ∀b∈(if i=i then bs else G.rb i),_
      rw [if_pos rfl,if_pos rfl]
      refine ⟨hR,fun b hb=>?_⟩
      obtain ⟨c1,c2⟩:=hbs b hb
      refine ⟨c2,fun o p=>?_,fun j c ec eb=>?_,fun j hj eb=>?_,fun j R' ej hbj=>?_⟩
      · have:=hi.publt b o p;omega
      · have:=(hi.x.sgs j c ec).1;omega
      · have:=hi.lt j (hne j hj).2
        have eb:G.blk j=b:=eb
        omega
      · by_cases q:j=i
        · exact q.symm
        · have hbj:b∈(if j=i then bs else G.rb j):=hbj
          rw [if_neg q] at hbj
          have:=((hi.x.res j R' (by rw [<-h2 j q];exact ej)).2 b hbj).1
          omega
    · rw [h2 i q] at e
      obtain ⟨a,c⟩:=hi.x.res i R' e
      show (∀w2:World,(∀b∈(if i=f then bs else G.rb i),w2.heap[b]?=w'.heap[b]?)->R' w2 (if i=f then v else G.rv i) (if i=f then bs else G.rb i))/\ ∀b∈(if i=f then bs else G.rb i),_
      rw [if_neg q,if_neg q]
      refine ⟨fun w2 hw=>a w2 fun b hb=>by rw [hw b hb];exact row b (c b hb).1,fun b hb=>?_⟩
      obtain ⟨c1,c2,c3,c4,c5⟩:=c b hb
      refine ⟨Nat.lt_of_lt_of_le c1 size,c2,c3,fun j hj=>c4 j (hne j hj).2,fun j R2 ej hbj=>?_⟩
      have hbj:b∈(if j=f then bs else G.rb j):=hbj
      by_cases q2:j=f
      · rw [if_pos q2] at hbj
        have:=(hbs b hbj).1;omega
      · rw [if_neg q2] at hbj
        exact c5 j R2 (by rw [<-h2 j q2];exact ej) hbj
mutual
theorem E.un_un: ∀e:E,e.un.un=e.un
  | .v _=>rfl
  | .sl es=>by rw [E.un,E.un,unss_unss es]
  | .iv t e=>by rw [E.un,E.un,E.un_un e]
  | .ia t es=>by rw [E.un,E.un,uns_uns es]
  | .fs _ es=>by rw [E.un,E.un,unss_unss es]
theorem uns_uns: ∀es:List E,uns (uns es)=uns es
  | []=>rfl
  | e::r=>by rw [uns,uns,E.un_un e,uns_uns r]
theorem unss_unss: ∀es:List (List E),unss (unss es)=unss es
  | []=>rfl
  | e::r=>by rw [unss,unss,uns_uns e,unss_unss r]
end
theorem RvE.fr {w:World} {G G':Gh} {v:Value} {e:E} (hq: ∀b o,G.pub b o->G'.pub b o) (r:RvE w G v e):RvE w G' v e.un:=by
  induction r with
  | v h=>exact .v h
  | nils h=>exact .nils h
  | @sl b off n cap k es u hn hc hm hk hp hr ih=>
    refine .sl (k:=k) u (by rw [unss_map,List.length_map];exact hn) hc hm (fun e he=>?_) (fun j hj=>⟨hq _ _ (hp j hj).1,(hp j hj).2⟩) fun j d hd=>?_
    · rw [unss_map] at he
      obtain ⟨e0,h0,rfl⟩:=List.mem_map.1 he
      rw [List.length_map];exact hk _ h0
    · rw [unss_flat,List.getElem?_map] at hd
      obtain ⟨d0,h0,rfl⟩:=Option.map_eq_some_iff.1 hd
      exact ih j d0 h0
  | iv _ ih=>exact .iv ih
  | @ia t cs ds hl _ ih=>
    refine .ia (by rw [uns_map,List.length_map];exact hl) fun j c d hc hd=>?_
    rw [uns_map,List.getElem?_map] at hd
    obtain ⟨d0,h0,rfl⟩:=Option.map_eq_some_iff.1 hd
    exact ih j c d0 hc h0
  | @fs i b n cap k es z u hs hz hn hc hm hk hp hr ih=>
    refine .sl (k:=k) u (by rw [unss_map,List.length_map];exact hn) hc hm (fun e he=>?_) (fun j hj=>⟨hq _ _ (hp j hj).1,(hp j hj).2⟩) fun j d hd=>?_
    · rw [unss_map] at he
      obtain ⟨e0,h0,rfl⟩:=List.mem_map.1 he
      rw [List.length_map];exact hk _ h0
    · rw [unss_flat,List.getElem?_map] at hd
      obtain ⟨d0,h0,rfl⟩:=Option.map_eq_some_iff.1 hd
      exact ih j d0 h0
  | fnils h=>exact .nils h
def Tree (e:E):World->Value->List Nat->Prop:=fun w v bs=>bs.Nodup/\TreeAt w v bs e
inductive LentT (h:Hp) (L:List Nat):D->D->Prop
  | e {a:E} (hf:a.un=a):LentT h L (.e a) (.e a)
  | rv {i:Nat} {e:E} (hL:i∈L) (hb:h i= .res (Tree e)):LentT h L (.rv i) (.e e.un)
  | agg {ds bz:List D} (hl:ds.length=bz.length) (hr: ∀(j:Nat) d a,ds[j]?=some d->bz[j]?=some a->LentT h L d a):LentT h L (.agg ds) (.agg bz)
def LentTs (h:Hp) (L:List Nat):List D->List D->Prop
  | [], []=>True
  | d::r,a::s=>LentT h L d a/\LentTs h L r s
  | _,_=>False
theorem LentTs.len {h:Hp} {L:List Nat} : ∀ {ds:List D} {az:List D},LentTs h L ds az->ds.length=az.length
  | [], [],_=>rfl
  | _::_,_::_,x=>by simp [LentTs.len x.2]
  | [],_::_,x=>x.elim
  | _::_, [],x=>x.elim
theorem LentTs.get {h:Hp} {L:List Nat} : ∀ {ds:List D} {az:List D} {j:Nat} {a:D},LentTs h L ds az->az[j]?=some a-> ∃d,ds[j]?=some d/\LentT h L d a
  | [], [],j,_,_,e=>by simp at e
  | d::_,_::_,0,_,x,e=>by simp at e;subst e;exact ⟨d,by simp,x.1⟩
  | _::_,_::_,j+1,_,x,e=>by obtain ⟨d,h1,h2⟩:=LentTs.get x.2 (by simpa using e);exact ⟨d,by simpa using h1,h2⟩
  | [],_::_,_,_,x,_=>x.elim
  | _::_, [],_,_,x,_=>x.elim
theorem LentTs.agg {h:Hp} {L:List Nat} {ds bz:List D} (x:LentTs h L ds bz):LentT h L (.agg ds) (.agg bz):= .agg x.len fun j d a hd ha=>by
  obtain ⟨d',h1,h2⟩:=x.get ha
  rw [hd] at h1
  cases h1
  exact h2
def Swap (f:Nat) (x:E) (d0 d1:D):Prop:= ∀(w:World) (G:Gh) (h:Hp) (v:Value),Rv w G h v d0-> ∃u,RvE w G u x/\ ∀(w2:World) (G2:Gh) (h2:Hp),Rv w2 G2 h2 u (.rv f)->Rv w2 G2 h2 v d1
theorem Swap.e {f:Nat} {x:E} :Swap f x (.e x) (.rv f):=fun _ _ _ v r=>⟨v,rv_e r,fun _ _ _ r=>r⟩
theorem Swap.agg {f:Nat} {x:E} {d0 d1:D} {ds:List D} (s:Swap f x d0 d1) (hs:scs ds=true):Swap f x (.agg (d0::ds)) (.agg (d1::ds)):=fun w G h v r=>by
  cases r with
  | @agg cs _ hl h1 hr=>
    have h0:0<cs.size:=by rw [hl];simp
    obtain ⟨u,q1,q2⟩:=s w G h cs[0] (hr 0 cs[0] d0 (by simp [h0]) rfl)
    refine ⟨u,q1,fun w2 G2 h2 r2=> .agg (by simpa using hl) h1 fun j c d hc hd=>?_⟩
    cases j with
    | zero=>
      simp at hd
      subst hd
      have:cs[0]=c:=by simpa [h0] using hc
      rw [<-this]
      exact q2 w2 G2 h2 r2
    | succ j=>exact (hr (j+1) c d hc (by simpa using hd)).sc (scs_get hs (by simpa using hd))
theorem Swap.tup {f:Nat} {x:E} {d0 d1:D} {ds:List D} (s:Swap f x d0 d1) (hs:scs ds=true):Swap f x (.tup (d0::ds)) (.tup (d1::ds)):=fun w G h v r=>by
  cases r with
  | @tup cs _ hl hr=>
    have h0:0<cs.size:=by rw [hl];simp
    obtain ⟨u,q1,q2⟩:=s w G h cs[0] (hr 0 cs[0] d0 (by simp [h0]) rfl)
    refine ⟨u,q1,fun w2 G2 h2 r2=> .tup (by simpa using hl) fun j c d hc hd=>?_⟩
    cases j with
    | zero=>
      simp at hd
      subst hd
      have:cs[0]=c:=by simpa [h0] using hc
      rw [<-this]
      exact q2 w2 G2 h2 r2
    | succ j=>exact (hr (j+1) c d hc (by simpa using hd)).sc (scs_get hs (by simpa using hd))
def pub0 (w:World):Gh:=⟨fun b _=>b<w.heap.size,fun _=>0,fun _=>none,fun _=> .bool true,fun _=> []⟩
theorem pub0_inv {w:World} :Inv w (pub0 w) (hpF [.ids 0]):=by
  have nh: ∀j k,(hpF [O.ids k] j).has=false:=fun j k=>by rw [ids_hp];split <;>rfl
  have no: ∀ {j k:Nat} {o:O},hpF [O.ids k] j=o->(∀m,o≠ .ids m)->o= .dead:=fun {j k o} e h1=>by
    rw [ids_hp] at e
    split at e
    · exact absurd e.symm (h1 _)
    · exact e.symm
  refine ⟨fun j h=>?_,fun j k h=>?_,fun _ _ p=>p,fun j ds e=>?_,fun j n k e=>?_,fun j b k ds e=>?_,fun j l e=>?_,⟨fun j b e=>(by cases e),fun j k b c e=>(by cases e),fun j m' e k hk=>rfl,fun j k m1 m2 e1 e2=>?_,fun j R e=>?_⟩⟩
  · rw [nh] at h;cases h
  · rw [nh] at h;cases h
  · have:=no e (by simp);cases this
  · have:=no e (by simp);cases this
  · have:=no e (by simp);cases this
  · have:=no e (by simp);cases this
  · rw [ids_hp] at e1 e2
    split at e1
    · split at e2
      · omega
      · cases e2
    · cases e1
  · have:=no e (by simp);cases this
theorem lentT_rv {w:World} {G:Gh} {h h':Hp} {L:List Nat} (hi:Inv w G h') (he: ∀i∈L,h' i=h i) {d:D} {a:D} (x:LentT h L d a) {hh:Hp} : ∀ {v:Value},Rv w G h' v d->Rv w (pub0 w) hh v a:=by
  induction x with
  | e hf=>
    intro v r
    refine .e ?_
    rw [<-hf]
    exact (rv_e r).fr fun b o p=>hi.publt b o p
  | @rv i e hL hb=>
    intro v r
    rw [<-he i hL] at hb
    cases r with
    | rv _ _=>
      obtain ⟨q1,q2⟩:=hi.x.res i _ hb
      obtain ⟨_,t⟩:=q1 w fun _ _=>rfl
      exact .e (t.rvE fun b hb o=>(q2 b hb).1)
  | @agg ds bz hl hr ih=>
    intro v r
    cases r with
    | @agg cs _ hl2 h1 hr2=>
      refine .agg (hl2.trans hl) h1 fun j c a hc ha=>?_
      have hj:j<ds.length:=by rw [hl];exact (List.getElem?_eq_some_iff.1 ha).1
      exact ih j ds[j] a (by simp [hj]) ha (hr2 j c ds[j] hc (by simp [hj]))
theorem Proc.callT {P:Program} {fn:FuncId} {ds:List D} {az:List D} {m:Nat} {e:E} {ns:List Nat} {h0:Hp} {L:List Nat} {f:Nat} {d0 d1:D} (h:Proc P fn (fun _=>az) (fun _=> [.ids 0]) (fun _=>d0) (fun _=> [.ids m])) (hns:e.nums=some ns) (hnd:ns.Nodup) (hsw:Swap f e d0 d1) (ha:LentTs h0 L ds az):
    CallE P fn ds (L.map fun i=>(i,h0 i)) f {d:=some d1,al:= [.res (Tree e)],tc:=L} :=by
  intro w G hh h' vs hi hpre hal he hs hr
  have hf:hh f= .dead:=hal 0 (by simp)
  have e1:h' f= .res (Tree e):=by rw [he f];simp
  have e2: ∀j,j≠f->h' j=hh j:=fun j q=>by
    rw [he j]
    simp only [List.length_cons,List.length_nil,List.find?_nil]
    rw [if_neg (by omega)]
  refine (h.ok w (pub0 w) vs pub0_inv (by rw [hs,ha.len]) fun j v x hv hx=>?_).mono fun en w' ⟨v,d',l',G1,q1,q2,q3,q4,q5⟩=>?_
  · obtain ⟨d0,h1,h2⟩:=ha.get hx
    exact lentT_rv hi (fun i hL=>hpre i _ (List.mem_map.2 ⟨i,hL,rfl⟩)) h2 (hr j v d0 hv h1)
  · obtain ⟨G2,r1,r2,r3⟩:=q2 w' G1 v q4 q3
    have x:=r3 _ _ q5
    obtain ⟨u,ru,back⟩:=hsw _ _ _ _ r1
    obtain ⟨bs,t1,t2⟩:=ru.tree (fun j b e=>(r2.x.sgs j b e).2.2) ns hns
    have row: ∀b,b<w.heap.size->w'.heap[b]?=w.heap[b]?:=fun b hb=>x.others b hb (fun i q=>by rw [ids_hp] at q;split at q <;>cases q) fun i R q=>by rw [ids_hp] at q;split at q <;>cases q
    have fresh: ∀b∈bs,w.heap.size<=b/\b<w'.heap.size:=fun b hb=>by
      obtain ⟨j,_,z,ej⟩:=t2.mem hb
      refine ⟨?_,(r2.x.sgs j _ ej).1⟩
      rcases x.sgw j _ ej with q | q | ⟨i,q,_⟩
      · cases q
      · exact q
      · rw [ids_hp] at q;split at q <;>cases q
    obtain ⟨i1,x1⟩:=frame_new (R:=Tree e) (v:=u) (bs:=bs) hi hf e1 e2 x.os x.tape x.output x.size row fresh fun w2 hw=>⟨t2.nodup r2.x.sgi hnd,t1.frame hw⟩
    refine ⟨v,d1,_,q1,rfl,?_,i1,x1⟩
    have:=Rv.rv (w:=w') (G:=G.more f u bs) (h:=h') (i:=f) e1 (by simp only [Gh.more,if_pos];exact t1.cell)
    exact back _ _ _ (by simpa [Gh.more] using this)
end Go.Proofs.Ytfplalbognalkaa.Ab
/- Steps of a law: calls that make trees, calls that look into them. -/
namespace Go.Proofs.Ytfplalbognalkaa.Ab
open Go
theorem frame_same {w w':World} {G:Gh} {h:Hp} (hi:Inv w G h) (os:w'.os=w.os) (tape:w'.tape=w.tape) (output:w'.output=w.output) (size:w.heap.size<=w'.heap.size) (row: ∀b,b<w.heap.size->w'.heap[b]?=w.heap[b]?):
    Inv w' G h/\Ext w G h w' G h:=by
  refine frame_look (G1:=allPub w G) (h1:=hpF []) hi ?_
  rw [hpF_nil]
  exact ⟨os,tape,output,size,fun b o p=>⟨p,by simp only [World.cell?];rw [row b p]⟩,fun i ds e=>(by simp at e),fun i n k e=>(by simp at e),fun b hb _ _=>row b hb,fun i e=>(by simp [O.has] at e),fun _ _ p=> .inl p,
    fun i b k ds e=>(by simp at e),fun i e=>(by simp at e),fun i l e=>(by simp at e),fun _ _ e=>e,fun i m e=>(by simp at e),fun i R e=>(by simp at e),fun i R e=>(by simp at e),fun i m e=>(by simp at e),fun _=>rfl,fun _ _ e=> .inl e⟩
theorem pub0_inv' {w:World} :Inv w (pub0 w) (hpF []):=by
  rw [hpF_nil]
  exact ⟨fun i h=>by simp [O.has] at h,fun i j h=>by simp [O.has] at h,fun _ _ p=>p,fun i ds e=>by simp at e,fun i n k e=>by simp at e,fun i b k ds e=>by simp at e,fun i l e=>by simp at e,⟨fun j b e=>(by cases e),fun i j b c e=>(by cases e),fun i m e=>(by simp at e),fun i j m m' e=>(by simp at e),fun i R e=>(by simp at e)⟩⟩
theorem Plain.callT {P:Program} {fn:FuncId} {ds:List D} {az:List D} {d:D} {h0:Hp} {L:List Nat} (h:Plain P fn az d) (ha:LentTs h0 L ds az) (hd:d.sc=true) (f:Nat):CallE P fn ds (L.map fun i=>(i,h0 i)) f {d:=some d,tc:=L} :=by
  intro w G hh h' vs hi hpre _ he hs hr
  have e':h'=hh:=by
    funext i
    rw [he i]
    simp only [List.length_nil,Nat.add_zero,List.find?_nil]
    rw [if_neg (by omega)]
  subst e'
  refine (h w (pub0 w) vs pub0_inv' (by rw [hs,ha.len]) fun j v x hv hx=>?_).mono fun e w' ⟨v,d',l',G1,q1,q2,q3,q4,q5⟩=>?_
  · obtain ⟨d0,h1,h2⟩:=ha.get hx
    exact lentT_rv hi (fun i hL=>hpre i _ (List.mem_map.2 ⟨i,hL,rfl⟩)) h2 (hr j v d0 hv h1)
  · obtain ⟨G2,r1,r2,r3⟩:=q2 w' G1 v q4 q3
    have x:=r3 _ _ q5
    rw [hpF_nil] at x
    obtain ⟨i1,x1⟩:=frame_same hi x.os x.tape x.output x.size fun b hb=>x.others b hb (fun i q=>by simp [O.has] at q) fun i R q=>by simp at q
    exact ⟨v,d,G,q1,rfl,r1.sc hd,i1,x1⟩
theorem callK_lookT {A:Ar} (hA:A.Ok) {P Q:Program} (e:P=Q) {hp:Hp} {f:Nat} {gd g:Bool} {fn:FuncId} {ds:List D} {az:List D} {d:D} {o:Prop} {K:Prop->Eff->Prop} (L:List Nat)
    (h:g=true->o->Plain Q fn az d) (ha:LentTs hp L ds az) (hd:d.sc=true) (hk:K o {d:=some (if gd then .when g d else d),tc:=L}):A.call P hp f gd g fn ds o K:=
  hA.call _ _ _ _ _ _ _ _ _ ⟨ds,L.map fun i=>(i,hp i),{d:=some d,tc:=L},Wks.refl _,(fun hg ho=>e▸(h hg ho).callT ha hd f),(fun i o hm=>by
    obtain ⟨i',_,e⟩:=List.mem_map.1 hm
    cases e;rfl),fun _ _=>⟨rfl,rfl⟩,fun _ h=>(List.not_mem_nil h).elim,by simp [Function.comp_def],d,rfl,hk⟩
theorem callK_tree {A:Ar} (hA:A.Ok) {P Q:Program} (e:P=Q) {hp:Hp} {f:Nat} {g:Bool} {fn:FuncId} {ds:List D} {az:List D} {m:Nat} {x:E} {ns:List Nat} {o:Prop} {K:Prop->Eff->Prop} {d0 d1:D} (L:List Nat)
    (h:g=true->o->Proc Q fn (fun _=>az) (fun _=> [.ids 0]) (fun _=>d0) (fun _=> [.ids m])) (ha:LentTs hp L ds az) (hns:x.nums=some ns) (hnd:ns.Nodup) (hsw:Swap f x d0 d1) (hk:K o {d:=some d1,al:= [.res (Tree x)],tc:=L}):A.call P hp f false g fn ds o K:=
  hA.call _ _ _ _ _ _ _ _ _ ⟨ds,L.map fun i=>(i,hp i),{d:=some d1,al:= [.res (Tree x)],tc:=L},Wks.refl _,(fun hg ho=>e▸(h hg ho).callT hns hnd hsw ha),(fun i o hm=>by
    obtain ⟨i',_,e⟩:=List.mem_map.1 hm
    cases e;rfl),fun h=>(by cases h),fun _ h=>(List.not_mem_nil h).elim,by simp [Function.comp_def],_,rfl,by simpa using hk⟩
def E.sca:E->Bool
  | .v _=>true
  | _=>false
theorem frame_mark {w w':World} {G:Gh} {h h':Hp} {i:Nat} {R R':World->Value->List Nat->Prop} {bs':List Nat} (hi:Inv w G h) (h0:h i= .res R) (h1:h' i= .res R') (h2: ∀j,j≠i->h' j=h j)
    (os:w'.os=w.os) (tape:w'.tape=w.tape) (output:w'.output=w.output) (size:w.heap.size<=w'.heap.size) (row: ∀b,b<w.heap.size->b∉G.rb i->w'.heap[b]?=w.heap[b]?)
    (hbs: ∀b∈bs',b<w'.heap.size/\(b∈G.rb i\/w.heap.size<=b)) (hR: ∀w2:World,(∀b∈bs',w2.heap[b]?=w'.heap[b]?)->R' w2 (G.rv i) bs'):
    Inv w' (G.more i (G.rv i) bs') h'/\Ext w G h w' (G.more i (G.rv i) bs') h':=by
  obtain ⟨_,hc⟩:=hi.x.res i R h0
  have rpub: ∀b o,G.pub b o->w'.heap[b]?=w.heap[b]?:=fun b o p=>row b (hi.publt b o p) fun hb=>(hc b hb).2.1 o p
  have rhas: ∀j,(h j).has=true->w'.heap[G.blk j]?=w.heap[G.blk j]?:=fun j hj=>row _ (hi.lt j hj) fun hb=>(hc _ hb).2.2.2.1 j hj rfl
  have hne: ∀j,(h' j).has=true->j≠i/\(h j).has=true:=fun j hj=>by
    have q:j≠i:=fun q=>by rw [q,h1] at hj;cases hj
    exact ⟨q,by rw [<-h2 j q];exact hj⟩
  have nd: ∀ {j o},h j=o->(∀R,o≠ .res R)->h' j=o:=fun {j o} e q=>by
    rw [h2 j (fun q2=>q R (by rw [<-e,q2,h0]))];exact e
  have back: ∀ {j o},h' j=o->(∀R,o≠ .res R)->h j=o:=fun {j o} e q=>by
    rw [<-h2 j (fun q2=>q R' (by rw [<-e,q2,h1]))];exact e
  have rv': ∀j,(G.more i (G.rv i) bs').rv j=G.rv j:=fun j=>by
    simp only [Gh.more]
    split
    · rename_i q;rw [q]
    · rfl
  have ext:Ext w G h w' (G.more i (G.rv i) bs') h':= {
    os:=os
    tape:=tape
    output:=output
    size:=size
    sgm:=fun _ _ e=>e
    idm:=fun j m e=>⟨m,nd e (by simp)⟩
    rvm:=fun j R2 e=>⟨by
      by_cases q:j=i
      · subst q;exact ⟨R',h1⟩
      · exact ⟨R2,by rw [h2 j q];exact e⟩,rv' j⟩
    rbnew:=fun j R2 e b hb=>by
      simp only [Gh.more] at hb
      split at hb
      · rcases (hbs b hb).2 with q | q
        · exact .inl ⟨i,R,h0,q⟩
        · exact .inr q
      · rename_i q
        exact .inl ⟨j,R2,by rw [<-h2 j q];exact e,hb⟩
    idn:=fun j m e=>⟨j,m,back e (by simp)⟩
    sgn:=fun _=>rfl
    sgw:=fun _ _ e=> .inl e
    pub:=fun b o p=>⟨p,by simp only [World.cell?];rw [rpub b o p]⟩
    box:=fun i ds e=>⟨⟨ds,nd e (by simp),rfl⟩,rfl⟩
    tok:=fun i n k e=>⟨n,nd e (by simp),Nat.le_refl _,fun _ hn=>⟨rfl,by simp only [World.shape?];rw [rhas i (by rw [e];simp [O.has,hn])]⟩⟩
    others:=fun b hb _ hq=>row b hb (hq i R h0)
    new:=fun i hi=> .inl ⟨i,(hne i hi).2,rfl⟩
    vec:=fun i b k ds e=> .inr ⟨ds,nd e (by simp),Nat.le_refl _,fun hb=>⟨rfl,by simp only [World.shape?];rw [rhas i (by rw [e];exact hb)]⟩⟩
    gone:=fun _ e=>nd e (by simp)
    smap:=fun _ l e=>⟨⟨l,nd e (by simp)⟩,rfl⟩
    pubnew:=fun b o p=> .inl p}
  refine ⟨⟨fun i hh=>Nat.lt_of_lt_of_le (hi.lt i (hne i hh).2) size,fun i j a c e=>hi.inj i j (hne i a).2 (hne j c).2 e,fun b o p=>Nat.lt_of_lt_of_le (hi.publt b o p) size,fun i ds e=>?_,fun i n k e hn=>?_,fun i b k ds e=>?_,fun i l e=>?_,
    ⟨fun j b e=>?_,hi.x.sgi,fun i m e=>hi.x.ids i m (back e (by simp)),fun i j m m' a c=>hi.x.idu i j m m' (back a (by simp)) (back c (by simp)),fun j R2 e=>?_⟩⟩,ext⟩
  · have e0:=back e (by simp)
    obtain ⟨a1,cs,T,a2,a3,a4⟩:=hi.box i ds e0
    exact ⟨a1,cs,T,by rw [<-a2];exact rhas i (by rw [e0];rfl),a3,fun j c d hc hd=>⟨(a4 j c d hc hd).1.ext ext,(a4 j c d hc hd).2⟩⟩
  · have e0:=back e (by simp)
    obtain ⟨⟨cs,T,a1⟩,a2⟩:=hi.front i n k e0 hn
    exact ⟨⟨cs,T,by rw [<-a1];exact rhas i (by rw [e0];simp [O.has,hn])⟩,a2⟩
  · have e0:=back e (by simp)
    obtain ⟨a0,a⟩:=hi.vec i b k ds e0
    refine ⟨a0,fun hb=>?_⟩
    obtain ⟨a1,cs,T,a2,a3,a4⟩:=a hb
    exact ⟨a1,cs,T,by rw [<-a2];exact rhas i (by rw [e0];exact hb),a3,fun j c d hc hd=>⟨(a4 j c d hc hd).1.ext ext,(a4 j c d hc hd).2⟩⟩
  · have e0:=back e (by simp)
    obtain ⟨a1,es,ck,a2,a3,a4⟩:=hi.smap i l e0
    exact ⟨a1,es,ck,by rw [<-a2];exact rhas i (by rw [e0];rfl),a3,fun j e p a b=>⟨(a4 j e p a b).1,RvE.mono (G':=G.more _ _ bs') ext.pub ext.sgm (a4 j e p a b).2⟩⟩
  · obtain ⟨a,c,d⟩:=hi.x.sgs j b e
    exact ⟨Nat.lt_of_lt_of_le a size,fun i hh=>c i (hne i hh).2,by rw [row _ a fun hb=>(hc _ hb).2.2.1 j b e rfl];exact d⟩
  · rw [rv' j]
    by_cases q:j=i
    · subst q
      rw [h1] at e
      cases e
      have hrb:(G.more j (G.rv j) bs').rb j=bs':=by simp [Gh.more]
      rw [hrb]
      refine ⟨hR,fun b hb=>?_⟩
      obtain ⟨c1,c2⟩:=hbs b hb
      refine ⟨c1,fun o p=>?_,fun k c ec eb=>?_,fun k hk eb=>?_,fun k R2 ek hbk=>?_⟩
      · have p:G.pub b o:=p
        rcases c2 with c2 | c2
        · exact (hc b c2).2.1 o p
        · have:=hi.publt b o p;omega
      · have ec:G.sg k=some c:=ec
        rcases c2 with c2 | c2
        · exact (hc b c2).2.2.1 k c ec eb
        · have:=(hi.x.sgs k c ec).1;omega
      · have eb:G.blk k=b:=eb
        rcases c2 with c2 | c2
        · exact (hc b c2).2.2.2.1 k (hne k hk).2 eb
        · have:=hi.lt k (hne k hk).2;omega
      · by_cases q:k=j
        · exact q.symm
        · have hbk:b∈(if k=j then bs' else G.rb k):=hbk
          rw [if_neg q] at hbk
          have ek':h k= .res R2:=by rw [<-h2 k q];exact ek
          rcases c2 with c2 | c2
          · exact (hc b c2).2.2.2.2 k R2 ek' hbk
          · have:=((hi.x.res k R2 ek').2 b hbk).1
            omega
    · rw [h2 j q] at e
      obtain ⟨a,c⟩:=hi.x.res j R2 e
      have hrb:(G.more i (G.rv i) bs').rb j=G.rb j:=by simp [Gh.more,q]
      rw [hrb]
      have out: ∀b∈G.rb j,b∉G.rb i:=fun b hb hb'=>q ((c b hb).2.2.2.2 i R h0 hb')
      refine ⟨fun w2 hw=>a w2 fun b hb=>by rw [hw b hb];exact row b (c b hb).1 (out b hb),fun b hb=>?_⟩
      obtain ⟨c1,c2,c3,c4,c5⟩:=c b hb
      refine ⟨Nat.lt_of_lt_of_le c1 size,c2,c3,fun k hk=>c4 k (hne k hk).2,fun k R3 ek hbk=>?_⟩
      have hbk:b∈(if k=i then bs' else G.rb k):=hbk
      by_cases q2:k=i
      · rw [if_pos q2] at hbk
        rcases (hbs b hbk).2 with q3 | q3
        · exact absurd q3 (out b hb)
        · omega
      · rw [if_neg q2] at hbk
        exact c5 k R3 (by rw [<-h2 k q2];exact ek) hbk
def MarkC (P:Program) (fn:FuncId) (sh:Value->Value) (e e':E) (k k':Int):Prop:= ∀(w:World) (v:Value) (bs:List Nat),bs.Nodup->(∀b∈bs,b<w.heap.size)->TreeAt w v bs e->
  Calls P fn #[sh v,.int .i64 k] w fun en w'=>en= .returned (.int .i64 k')/\okV (.int .i64 k')=true/\w'.os=w.os/\w'.tape=w.tape/\w'.output=w.output/\w.heap.size<=w'.heap.size/\(∀b,b<w.heap.size->b∉bs->w'.heap[b]?=w.heap[b]?)/\
    ∃bs',bs'.Nodup/\(∀b∈bs',b<w'.heap.size/\(b∈bs\/w.heap.size<=b))/\TreeAt w' v bs' e'
theorem two_args {w:World} {G:Gh} {h:Hp} {vs:Array Value} {d:D} {k:Int} {x:Value} (hs:vs.size=2) (hr: ∀(j:Nat) v a,vs[j]?=some v-> [d,.e (.v (.int .i64 k))][j]?=some a->Rv w G h v a) (hx: ∀v,Rv w G h v d->v=x):vs= #[x,.int .i64 k]:=by
  have h1:vs[1]= .int .i64 k:=by
    have:=rv_e (hr 1 vs[1] (.e (.v (.int .i64 k))) (by simp [hs]) rfl)
    generalize vs[1]=y at this
    cases this;rfl
  have h0:vs[0]=x:=hx _ (hr 0 vs[0] d (by simp [hs]) rfl)
  refine Array.ext (by simpa using hs) fun i a b=>?_
  match i with
  | 0=>exact h0
  | 1=>exact h1
  | i+2=>simp at b;omega
theorem MarkC.callE {P:Program} {fn:FuncId} {sh:Value->Value} {e e':E} {k k':Int} {i f:Nat} {d:D} (h:MarkC P fn sh e e' k k') (hd: ∀(w:World) (G:Gh) (h:Hp) v,Rv w G h v d->v=sh (G.rv i)):
    CallE P fn [d,.e (.v (.int .i64 k))] [(i,.res (Tree e))] f {d:=some (.e (.v (.int .i64 k'))),wr:= [(i,.res (Tree e'))],tc:= [i]} :=by
  intro w G hh h' vs hi hpre _ he hs hr
  have e0:hh i= .res (Tree e):=hpre i _ (by simp)
  have e1:h' i= .res (Tree e'):=by
    rw [he i,if_neg (by simp)]
    simp
  have e2: ∀j,j≠i->h' j=hh j:=fun j q=>by
    rw [he j,if_neg (by simp)]
    have:(i==j)=false:=by simp;omega
    simp [this]
  obtain ⟨a,c⟩:=hi.x.res i _ e0
  obtain ⟨nd,t⟩:=a w fun _ _=>rfl
  have hv:=two_args hs hr fun v r=>hd w G hh v r
  subst hv
  refine (h w (G.rv i) (G.rb i) nd (fun b hb=>(c b hb).1) t).mono fun en w' ⟨q1,ok,os,tp,ou,sz,row,bs',n',l',t'⟩=>?_
  obtain ⟨i1,x1⟩:=frame_mark (R':=Tree e') (bs':=bs') hi e0 e1 e2 os tp ou sz row l' fun w2 hw=>⟨n',t'.frame hw⟩
  exact ⟨_,_,_,q1,rfl,.e (.v ok),i1,x1⟩
theorem callK_mark {A:Ar} (hA:A.Ok) {P Q:Program} (e:P=Q) {hp:Hp} {f:Nat} {g:Bool} {fn:FuncId} {sh:Value->Value} {x x':E} {k k':Int} {d:D} {o:Prop} {K:Prop->Eff->Prop} (i:Nat) (hb:hp i= .res (Tree x))
    (hd: ∀(w:World) (G:Gh) (h:Hp) v,Rv w G h v d->v=sh (G.rv i)) (hk:K o {d:=some (.e (.v (.int .i64 k'))),wr:= [(i,.res (Tree x'))],tc:= [i]}) (h:MarkC Q fn sh x x' k k'):A.call P hp f false g fn [d,.e (.v (.int .i64 k))] o K:=
  hA.call _ _ _ _ _ _ _ _ _ ⟨_, [(i,.res (Tree x))],{d:=some (.e (.v (.int .i64 k'))),wr:= [(i,.res (Tree x'))],tc:= [i]},Wks.refl _,(fun _ _=>e▸h.callE hd),(fun j o hm=>by
    rw [List.mem_singleton] at hm;cases hm;exact hb),fun h=>(by cases h),fun y hy=>by rw [List.mem_singleton] at hy;subst hy;simp,by simp,_,rfl,by simpa using hk⟩
theorem callK_res {A:Ar} (hA:A.Ok) {P Q:Program} (e:P=Q) {hp:Hp} {f:Nat} {g:Bool} {fn:FuncId} {ds:List D} {d:D} {i:Nat} {R R':World->Value->List Nat->Prop} {o:Prop} {K:Prop->Eff->Prop} (hb:hp i= .res R)
    (hk:K o {d:=some d,wr:= [(i,.res R')],tc:= [i]}) (h: ∀f,CallE Q fn ds [(i,.res R)] f {d:=some d,wr:= [(i,.res R')],tc:= [i]}):A.call P hp f false g fn ds o K:=
  hA.call _ _ _ _ _ _ _ _ _ ⟨_, [(i,.res R)],{d:=some d,wr:= [(i,.res R')],tc:= [i]},Wks.refl _,(fun _ _=>e▸h f),(fun j o hm=>by
    rw [List.mem_singleton] at hm;cases hm;exact hb),fun h=>(by cases h),fun y hy=>by rw [List.mem_singleton] at hy;subst hy;simp,by simp,_,rfl,by simpa using hk⟩
def Trees (vs:List Value) (ts:List E):World->Value->List Nat->Prop:=fun w _ bs=>bs.Nodup/\ ∃bss:List (List Nat),bs=bss.flatten/\bss.length=ts.length/\(∀(j:Nat) e,ts[j]?=some e->e.sca=true->bss.getD j []= [])/\
  ∀(j:Nat) v e,vs[j]?=some v->ts[j]?=some e->e.sca=false->TreeAt w v (bss.getD j []) e
theorem mem_set_flat {bss:List (List Nat)} {j:Nat} {l:List Nat} {b:Nat} (h:b∈(bss.set j l).flatten):b∈l\/b∈bss.flatten:=by
  obtain ⟨x,h1,h2⟩:=List.mem_flatten.1 h
  rcases List.mem_or_eq_of_mem_set h1 with q | rfl
  · exact .inr (List.mem_flatten.2 ⟨x,q,h2⟩)
  · exact .inl h2
theorem flat_disj: ∀ {bss:List (List Nat)} {i j b:Nat},bss.flatten.Nodup->b∈bss.getD i []->b∈bss.getD j []->i=j
  | [],i,j,b,_,hi,_=>by simp at hi
  | a::r,0,0,_,_,_,_=>rfl
  | a::r,0,j+1,b,nd,hi,hj=>by
    rw [List.flatten_cons,List.nodup_append] at nd
    exact absurd rfl (nd.2.2 b (by simpa using hi) b (mem_getD_flatten (by simpa using hj)))
  | a::r,i+1,0,b,nd,hi,hj=>by
    rw [List.flatten_cons,List.nodup_append] at nd
    exact absurd rfl (nd.2.2 b (by simpa using hj) b (mem_getD_flatten (by simpa using hi)))
  | a::r,i+1,j+1,b,nd,hi,hj=>by
    rw [List.flatten_cons,List.nodup_append] at nd
    exact congrArg (· +1) (flat_disj (bss:=r) (b:=b) nd.2.1 (by simpa using hi) (by simpa using hj))
theorem nodup_getD: ∀ {bss:List (List Nat)} {j:Nat},bss.flatten.Nodup->(bss.getD j []).Nodup
  | [],j,_=>by simp
  | a::r,0,nd=>by
    rw [List.flatten_cons,List.nodup_append] at nd
    exact nd.1
  | a::r,j+1,nd=>by
    rw [List.flatten_cons,List.nodup_append] at nd
    simpa using nodup_getD (j:=j) nd.2.1
theorem nodup_set: ∀ {bss:List (List Nat)} {j N:Nat} {l:List Nat},bss.flatten.Nodup->l.Nodup->(∀b∈l,b∈bss.getD j []\/N<=b)->(∀b∈bss.flatten,b<N)->(bss.set j l).flatten.Nodup
  | [],_,_,_,_,_,_,_=>by simp
  | a::r,0,N,l,nd,hl,hd,hN=>by
    rw [List.flatten_cons,List.nodup_append] at nd
    rw [List.set_cons_zero,List.flatten_cons,List.nodup_append]
    refine ⟨hl,nd.2.1,fun x hx y hy=>?_⟩
    rcases hd x hx with q | q
    · exact nd.2.2 x (by simpa using q) y hy
    · have:=hN y (by rw [List.flatten_cons];exact List.mem_append_right _ hy);omega
  | a::r,j+1,N,l,nd,hl,hd,hN=>by
    rw [List.flatten_cons,List.nodup_append] at nd
    rw [List.set_cons_succ,List.flatten_cons,List.nodup_append]
    refine ⟨nd.1,nodup_set (N:=N) nd.2.1 hl (fun b hb=>by simpa using hd b hb) (fun b hb=>hN b (by rw [List.flatten_cons];exact List.mem_append_right _ hb)),fun x hx y hy=>?_⟩
    rcases mem_set_flat hy with q | q
    · rcases hd y q with q | q
      · exact nd.2.2 x hx y (mem_getD_flatten (by simpa using q))
      · have:=hN x (by rw [List.flatten_cons];exact List.mem_append_left _ hx);omega
    · exact nd.2.2 x hx y q
theorem MarkC.callEs {P:Program} {fn:FuncId} {e e':E} {k k':Int} {i f j:Nat} {vs0:List Value} {ts:List E} {v:Value} (h:MarkC P fn id e e' k k') (hv:vs0[j]?=some v) (ht:ts[j]?=some e) (hs0:e.sca=false) (hs1:e'.sca=false):
    CallE P fn [.e (.v v),.e (.v (.int .i64 k))] [(i,.res (Trees vs0 ts))] f {d:=some (.e (.v (.int .i64 k'))),wr:= [(i,.res (Trees vs0 (ts.set j e')))],tc:= [i]} :=by
  intro w G hh h' vs hi hpre _ he hs hr
  have e0:hh i= .res (Trees vs0 ts):=hpre i _ (by simp)
  have e1:h' i= .res (Trees vs0 (ts.set j e')):=by
    rw [he i,if_neg (by simp)]
    simp
  have e2: ∀j,j≠i->h' j=hh j:=fun j q=>by
    rw [he j,if_neg (by simp)]
    have:(i==j)=false:=by simp;omega
    simp [this]
  obtain ⟨a,c⟩:=hi.x.res i _ e0
  obtain ⟨nd,bss,eb,el,hsc,hsl⟩:=a w fun _ _=>rfl
  have t:=hsl j v e hv ht hs0
  have hj:j<ts.length:=(List.getElem?_eq_some_iff.1 ht).1
  have sub: ∀m,∀b∈bss.getD m [],b∈G.rb i:=fun m b hb=>by rw [eb];exact mem_getD_flatten hb
  have hv2:=two_args (x:=v) hs hr fun u r=>by
    have r:=rv_e r
    cases r;rfl
  subst hv2
  have ndj:(bss.getD j []).Nodup:=by
    rw [eb] at nd
    exact nodup_getD nd
  refine (h w v (bss.getD j []) ndj (fun b hb=>(c b (sub j b hb)).1) t).mono fun en w' ⟨q1,ok,os,tp,ou,sz,row,bs',n',l',t'⟩=>?_
  have setj:(bss.set j bs').getD j []=bs':=by simp [List.getD,show j<bss.length by omega]
  have setm: ∀m,m≠j->(bss.set j bs').getD m []=bss.getD m []:=fun m q=>by simp [List.getD,List.getElem?_set_ne (Ne.symm q)]
  have hA: ∀b∈(bss.set j bs').flatten,b<w'.heap.size/\(b∈G.rb i\/w.heap.size<=b):=fun b hb=>by
    rcases mem_set_flat hb with q | q
    · obtain ⟨c1,c2⟩:=l' b q
      exact ⟨c1,c2.imp_left (sub j b)⟩
    · rw [<-eb] at q
      exact ⟨Nat.lt_of_lt_of_le (c b q).1 sz,.inl q⟩
  have hB: ∀w2:World,(∀b∈(bss.set j bs').flatten,w2.heap[b]?=w'.heap[b]?)->Trees vs0 (ts.set j e') w2 (G.rv i) (bss.set j bs').flatten:=fun w2 hw=>by
    refine ⟨nodup_set (N:=w.heap.size) (by rw [<-eb];exact nd) n' (fun b hb=>(l' b hb).2) (fun b hb=>(c b (by rw [eb];exact hb)).1),bss.set j bs',rfl,by simp [el],fun m x hx hxs=>?_,fun m u x hu hx hxs=>?_⟩
    · by_cases q:m=j
      · subst q
        rw [List.getElem?_set_self hj] at hx
        cases hx
        rw [hs1] at hxs;cases hxs
      · rw [List.getElem?_set_ne (Ne.symm q)] at hx
        rw [setm m q]
        exact hsc m x hx hxs
    · by_cases q:m=j
      · subst q
        rw [List.getElem?_set_self hj] at hx
        cases hx
        rw [hv] at hu
        cases hu
        rw [setj]
        exact t'.frame fun b hb=>hw b (mem_getD_flatten (j:=m) (by rw [setj];exact hb))
      · rw [List.getElem?_set_ne (Ne.symm q)] at hx
        rw [setm m q]
        refine (hsl m u x hu hx hxs).frame fun b hb=>?_
        rw [hw b (mem_getD_flatten (j:=m) (by rw [setm m q];exact hb))]
        exact row b (c b (sub m b hb)).1 fun hb'=>q (flat_disj (by rw [<-eb];exact nd) hb hb')
  obtain ⟨i1,x1⟩:=frame_mark (R':=Trees vs0 (ts.set j e')) (bs':=(bss.set j bs').flatten) hi e0 e1 e2 os tp ou sz (fun b hb hn=>row b hb fun q=>hn (sub j b q)) hA hB
  exact ⟨_,_,_,q1,rfl,.e (.v ok),i1,x1⟩
end Go.Proofs.Ytfplalbognalkaa.Ab
/- Marks: slices of scalars. -/
namespace Go.Proofs.Ytfplalbognalkaa.Ab
open Go
theorem tree_nil {w:World} {v:Value} {bs:List Nat} {i:Nat} (t:TreeAt w v bs (.fs i [])): ∃a cap,v= .slice a 0 cap/\(a=none->cap=0):=by
  cases t with
  | nil h=>exact ⟨_,_,rfl,h⟩
  | fs bss hn hc hm hk hb hsz hl hr=>subst hn;exact ⟨_,_,rfl,fun h=>by cases h⟩
def oneG (w:World) (b:Nat):Gh:=⟨fun x _=>x<w.heap.size/\x≠b,fun _=>b,fun _=>none,fun _=> .bool true,fun _=> []⟩
theorem vec_hp {b:Bool} {k i:Nat} {ds:List D} :hpF [O.vec b k ds] i=if i=0 then .vec b k ds else .dead:=by
  cases i <;>simp [hpF]
theorem one_inv {w:World} {b k:Nat} {ds:List D} {cs:Array Value} {T:TypeId} (hb:w.heap[b]?=some (.cells cs T (0,0))) (hl:ds.length<=cs.size)
    (hr: ∀(j:Nat) c d,cs[j]?=some c->ds[j]?=some d->Rv w (oneG w b) (hpF [.vec true k ds]) c d/\c.oneCell'=true):Inv w (oneG w b) (hpF [.vec true k ds]):=by
  have no: ∀ {j:Nat} {o:O},hpF [O.vec true k ds] j=o->(∀b k ds,o≠ .vec b k ds)->o= .dead:=fun {j o} e h1=>by
    rw [vec_hp] at e
    split at e
    · exact absurd e.symm (h1 _ _ _)
    · exact e.symm
  have lt:b<w.heap.size:=(Array.getElem?_eq_some_iff.1 hb).1
  have z: ∀ {i},(hpF [O.vec true k ds] i).has=true->i=0:=fun {i} h=>by
    rw [vec_hp] at h
    split at h
    · assumption
    · cases h
  refine ⟨fun j h=>lt,fun j k h1 h2 _=>(z h1).trans (z h2).symm,fun _ _ p=>p.1,fun j ds e=>?_,fun j n k e=>?_,fun j b' k' ds' e=>?_,fun j l e=>?_,⟨fun j b e=>(by cases e),fun j k b c e=>(by cases e),fun j m' e k hk=>rfl,fun j k m1 m2 e1 e2=>?_,fun j R e=>?_⟩⟩
  · have:=no e (by simp);cases this
  · have:=no e (by simp);cases this
  · rw [vec_hp] at e
    split at e
    · cases e
      exact ⟨fun h=>(by cases h),fun _=>⟨fun o p=>p.2 rfl,cs,T,hb,hl,hr⟩⟩
    · cases e
  · have:=no e (by simp);cases this
  · have:=no e1 (by simp);cases this
  · have:=no e (by simp);cases this
theorem markLeaf {P:Program} {fn:FuncId} {k:Nat} {i:Nat} {es es':List (List E)} {z z':Int} (hs: ∀e∈es.flatten,e.sca=true) (hs': ∀e∈es'.flatten,e.sca=true) (hl:es'.length=es.length) (hk': ∀e∈es',e.length=k) (hz:okV (.int .i64 z)=true)
    (h0:es= []->Plain P fn [.e (.sl []),.int z] (.int z'))
    (h1:0<es.length->(∀e∈es,e.length=k)->Proc P fn (fun t=> [.vec (t 0) es.length k,.int z]) (fun _=> [.vec true k (es.flatten.map .e)]) (fun _=> .int z') (fun _=> [.vec true k (es'.flatten.map .e)])) (hk: ∀e∈es,e.length=k):
    MarkC P fn id (.fs i es) (.fs i es') z z':=by
  intro w v bs hnd hlt t
  by_cases he:es= []
  · subst he
    have he':es'= []:=List.length_eq_zero_iff.1 hl
    subst he'
    obtain ⟨a,cap,rfl,ha⟩:=tree_nil t
    refine (h0 rfl w (pub0 w) _ pub0_inv' rfl fun j x d hx hd=>?_).mono fun en w' ⟨v',d',l',G1,q1,q2,q3,q4,q5⟩=>?_
    · rcases j with _ | _ | j
      · cases hx;cases hd;exact .e (.nils ha)
      · cases hx;cases hd;exact .e (.v hz)
      · simp at hx
    · obtain ⟨G2,r1,r2,r3⟩:=q2 w' G1 v' q4 q3
      have x:=r3 _ _ q5
      rw [hpF_nil] at x
      have r1:=rv_e r1
      cases r1 with | v hok=>?_
      exact ⟨q1,hok,x.os,x.tape,x.output,x.size,fun b hb _=>x.others b hb (fun i q=>by simp [O.has] at q) fun i R q=>by simp at q, [],List.nodup_nil,(fun b hb=>(by cases hb)),.nil ha⟩
  · have hpos:0<es.length:=List.length_pos_iff.2 he
    cases t with
    | nil=>exact absurd rfl he
    | @fs b n cap k2 i es cs T bss hn hc hm hk2 hb hsz hl2 hr=>
      have hkk:k2=k:=by
        obtain ⟨a,r,rfl⟩:=List.exists_cons_of_ne_nil he
        rw [<-hk2 a (by simp),hk a (by simp)]
      subst hkk
      have hfl:es.flatten.length=n * k2:=by rw [flatten_len hk,hn]
      have hfl':es'.flatten.length=n * k2:=by rw [flatten_len hk',hl,hn]
      have hle:n * k2<=cs.size:=Nat.le_trans (Nat.mul_le_mul_right k2 hc) hsz
      have inv:Inv w (oneG w b) (hpF [.vec true k2 (es.flatten.map .e)]):=one_inv hb (by rw [List.length_map,hfl];exact hle) fun j c d hcj hdj=>by
        rw [List.getElem?_map] at hdj
        obtain ⟨e0,h0,rfl⟩:=Option.map_eq_some_iff.1 hdj
        have ht:=hr j e0 h0
        have hsc:=hs e0 (List.mem_of_getElem? h0)
        have hcg:cs.getD j undef=c:=by
          obtain ⟨hj,e⟩:=Array.getElem?_eq_some_iff.1 hcj
          simp [Array.getD,hj,e]
        rw [hcg] at ht
        cases e0 with
        | v x=>
          generalize bss.getD j []=bj at ht
          cases ht with
          | v hx=>exact ⟨.e (.v hx),okV.cell hx⟩
        | _=>simp [E.sca] at hsc
      refine ((h1 hpos hk).ok w (oneG w b) _ inv rfl fun j x d hx hd=>?_).mono fun en w' ⟨v',d',l',G1,q1,q2,q3,q4,q5⟩=>?_
      · rcases j with _ | _ | j
        · cases hx;cases hd
          show Rv w _ _ _ (.vec 0 es.length k2)
          rw [hn]
          refine Rv.vec (i:=0) (h:=hpF [O.vec true k2 (es.flatten.map .e)]) (by simp [hpF]) hm hc fun b' k' ds' e=>?_
          simp only [id_eq,vec_hp,if_true,O.vec.injEq] at e
          obtain ⟨rfl,rfl,rfl⟩:=e
          exact ⟨rfl,by rw [List.length_map,hfl];exact Nat.le_refl _,fun h=>(by cases h),fun _=>⟨rfl,cs,T,(0,0),hb,hsz⟩⟩
        · cases hx;cases hd;exact .e (.v hz)
        · simp at hx
      · obtain ⟨G2,r1,r2,r3⟩:=q2 w' G1 v' q4 q3
        have x:=r3 _ _ q5
        have r1:=rv_e r1
        cases r1 with | v hok=>?_
        rcases x.vec 0 true k2 _ rfl with q | ⟨ds',e1,_,g⟩
        · simp [hpF] at q
        obtain ⟨g1,g2⟩:=g rfl
        have g1:G2.blk 0=b:=g1
        have hlt':b<w'.heap.size:=by rw [<-g1];exact r2.lt 0 (by simp [hpF,O.has])
        obtain ⟨_,cs',T',c1,c2,c3⟩:=(r2.vec 0 _ _ _ rfl).2 rfl
        rw [g1] at c1
        have hsz':cs'.size=cs.size:=by
          have g2:w'.shape? b=w.shape? b:=g2
          rw [shape_size c1,shape_size hb] at g2
          simpa using congrArg (Option.map Prod.snd) g2
        have zz: ∀m:Nat,(List.replicate m ([]:List Nat)).flatten= []:=fun m=>by
          induction m with
          | zero=>rfl
          | succ m ih=>rw [List.replicate_succ,List.flatten_cons,ih];rfl
        refine ⟨q1,hok,x.os,x.tape,x.output,x.size,fun b2 hb2 hn2=>x.others b2 hb2 (fun i q e=>hn2 ?_) (fun i R q=>?_), [b],(by simp),fun b2 hb2=>?_,?_⟩
        · have e:b=b2:=e
          rw [<-e];exact List.mem_cons_self
        · simp only [id_eq,vec_hp] at q
          split at q <;>cases q
        · rw [List.mem_singleton] at hb2
          subst hb2
          exact ⟨hlt',.inl List.mem_cons_self⟩
        · have:=TreeAt.fs (w:=w') (i:=i) (cap:=cap) (List.replicate (n * k2) []) (hl.trans hn) hc hm hk' c1 (by omega) (by simp) fun j d hd=>?_
          · rw [zz] at this
            exact this
          · have hj:j<n * k2:=by rw [<-hfl'];exact (List.getElem?_eq_some_iff.1 hd).1
            have hjc:j<cs'.size:=by omega
            have hsc:=hs' d (List.mem_of_getElem? hd)
            have hv:=(c3 j cs'[j] (.e d) (by simp [hjc]) (by rw [List.getElem?_map,hd];rfl)).1
            have hcg:cs'.getD j undef=cs'[j]:=by simp [Array.getD,hjc]
            have hrep:(List.replicate (n * k2) ([]:List Nat)).getD j []= []:=by simp [List.getD,List.getElem?_replicate];split <;>rfl
            rw [hcg,hrep]
            cases d with
            | v x=>
              have hv:=rv_e hv
              generalize cs'[j]=c at hv
              cases hv with
              | v hx=>exact .v hx
            | _=>simp [E.sca] at hsc
theorem finv_refl {A:Ar} (hA:A.Ok) {l0 l:List O} {d:D} :A.finv l0 l d l d:=hA.finv _ _ _ _ _ fun _ G _ hi hr=>⟨G,hr,hi,fun _ _ e=>e⟩
def cellE (v:Value):E->E
  | .v x=> .v x
  | _=> .v v
def cells (vs:List Value) (L:List E):List D:=List.zipWith (fun v e=> .e (cellE v e)) vs L
theorem cells_get {vs:List Value} {L:List E} {j:Nat} {v:Value} {e:E} (hv:vs[j]?=some v) (he:L[j]?=some e):(cells vs L)[j]?=some (.e (cellE v e)):=by
  rw [cells,List.getElem?_zipWith,hv,he]
theorem cells_len {vs:List Value} {L:List E} (h:vs.length=L.length):(cells vs L).length=L.length:=by
  rw [cells,List.length_zipWith,h,Nat.min_self]
def trk:E->E
  | .v _=> .v (.bool true)
  | e=>e
theorem trk_sca (e:E):(trk e).sca=e.sca:=by cases e <;>rfl
theorem trk_of {e:E} (h:e.sca=false):trk e=e:=by cases e <;>first | rfl | simp [E.sca] at h
def cG (b:Nat) (v:Value) (bs:List Nat):Gh:=⟨fun _ _=>False,fun _=>b,fun _=>none,fun _=>v,fun _=>bs⟩
theorem two_hp {k i:Nat} {ds:List D} {R:World->Value->List Nat->Prop} :hpF [O.vec true k ds,.res R] i=if i=0 then .vec true k ds else if i=1 then .res R else .dead:=by
  match i with
  | 0=>rfl
  | 1=>rfl
  | i+2=>simp [hpF]
theorem two_inv {w:World} {b k:Nat} {ds:List D} {cs:Array Value} {T:TypeId} {bs:List Nat} {v:Value} {R:World->Value->List Nat->Prop} (hb:w.heap[b]?=some (.cells cs T (0,0))) (hl:ds.length<=cs.size) (hbb:b∉bs) (hlt: ∀x∈bs,x<w.heap.size)
    (hR: ∀w':World,(∀x∈bs,w'.heap[x]?=w.heap[x]?)->R w' v bs)
    (hr: ∀(j:Nat) c d,cs[j]?=some c->ds[j]?=some d->Rv w (cG b v bs) (hpF [.vec true k ds,.res R]) c d/\c.oneCell'=true):Inv w (cG b v bs) (hpF [.vec true k ds,.res R]):=by
  have no: ∀ {j:Nat} {o:O},hpF [O.vec true k ds,.res R] j=o->(∀b k ds,o≠ .vec b k ds)->(∀R,o≠ .res R)->o= .dead:=fun {j o} e h1 h2=>by
    rw [two_hp] at e
    split at e
    · exact absurd e.symm (h1 _ _ _)
    · split at e
      · exact absurd e.symm (h2 _)
      · exact e.symm
  have lt:b<w.heap.size:=(Array.getElem?_eq_some_iff.1 hb).1
  have z: ∀ {i},(hpF [O.vec true k ds,.res R] i).has=true->i=0:=fun {i} h=>by
    rw [two_hp] at h
    split at h
    · assumption
    · split at h <;>cases h
  refine ⟨fun j h=>lt,fun j k h1 h2 _=>(z h1).trans (z h2).symm,fun _ _ p=>p.elim,fun j ds e=>?_,fun j n k e=>?_,fun j b' k' ds' e=>?_,fun j l e=>?_,⟨fun j b e=>(by cases e),fun j k b c e=>(by cases e),fun j m' e k hk=>rfl,fun j k m1 m2 e1 e2=>?_,fun j R' e=>?_⟩⟩
  · have:=no e (by simp) (by simp);cases this
  · have:=no e (by simp) (by simp);cases this
  · rw [two_hp] at e
    split at e
    · cases e
      exact ⟨fun h=>(by cases h),fun _=>⟨fun o p=>p.elim,cs,T,hb,hl,hr⟩⟩
    · split at e <;>cases e
  · have:=no e (by simp) (by simp);cases this
  · have:=no e1 (by simp) (by simp);cases this
  · have one: ∀ {i R2},hpF [O.vec true k ds,.res R] i= .res R2->i=1:=fun {i R2} e=>by
      rw [two_hp] at e
      split at e
      · cases e
      · split at e
        · assumption
        · cases e
    have:=one e
    subst this
    cases e
    exact ⟨hR,fun x hx=>⟨hlt x hx,fun o p=>p.elim,fun j c e=>(by cases e),fun j hj e=>hbb (by have e:b=x:=e;rw [e];exact hx),fun j R' e _=>(one e).symm⟩⟩
theorem markOuter {P:Program} {fn:FuncId} {k:Nat} {i:Nat} {es es':List (List E)} {z z':Int} (hs: ∀j:Nat,(es'.flatten[j]?).map E.sca=(es.flatten[j]?).map E.sca) (hl:es'.length=es.length) (hk': ∀e∈es',e.length=k) (hz:okV (.int .i64 z)=true)
    (h0:es= []->Plain P fn [.e (.sl []),.e (.v (.int .i64 z))] (.e (.v (.int .i64 z'))))
    (h1:0<es.length->(∀e∈es,e.length=k)-> ∀vs:List Value,vs.length=es.flatten.length->
      Proc P fn (fun t=> [.vec (t 0) es.length k,.e (.v (.int .i64 z))]) (fun _=> [.vec true k (cells vs es.flatten),.res (Trees vs (es.flatten.map trk))]) (fun _=> .e (.v (.int .i64 z')))
        (fun _=> [.vec true k (cells vs es'.flatten),.res (Trees vs (es'.flatten.map trk))])) (hk: ∀e∈es,e.length=k):
    MarkC P fn id (.fs i es) (.fs i es') z z':=by
  intro w v bs hnd hlt t
  by_cases he:es= []
  · subst he
    have he':es'= []:=List.length_eq_zero_iff.1 hl
    subst he'
    obtain ⟨a,cap,rfl,ha⟩:=tree_nil t
    refine (h0 rfl w (pub0 w) _ pub0_inv' rfl fun j x d hx hd=>?_).mono fun en w' ⟨v',d',l',G1,q1,q2,q3,q4,q5⟩=>?_
    · rcases j with _ | _ | j
      · cases hx;cases hd;exact .e (.nils ha)
      · cases hx;cases hd;exact .e (.v hz)
      · simp at hx
    · obtain ⟨G2,r1,r2,r3⟩:=q2 w' G1 v' q4 q3
      have x:=r3 _ _ q5
      rw [hpF_nil] at x
      have r1:=rv_e r1
      cases r1 with | v hok=>?_
      exact ⟨q1,hok,x.os,x.tape,x.output,x.size,fun b hb _=>x.others b hb (fun i q=>by simp [O.has] at q) fun i R q=>by simp at q, [],List.nodup_nil,(fun b hb=>(by cases hb)),.nil ha⟩
  · have hpos:0<es.length:=List.length_pos_iff.2 he
    cases t with
    | nil=>exact absurd rfl he
    | @fs b n cap k2 i es cs T bss hn hc hm hk2 hb hsz hl2 hr=>
      have hkk:k2=k:=by
        obtain ⟨a,r,rfl⟩:=List.exists_cons_of_ne_nil he
        rw [<-hk2 a (by simp),hk a (by simp)]
      subst hkk
      have hfl:es.flatten.length=n * k2:=by rw [flatten_len hk,hn]
      have hfl':es'.flatten.length=n * k2:=by rw [flatten_len hk',hl,hn]
      have hle:n * k2<=cs.size:=Nat.le_trans (Nat.mul_le_mul_right k2 hc) hsz
      obtain ⟨vs,hvs⟩: ∃vs:List Value,vs=(List.range (n * k2)).map fun j=>cs.getD j undef:=⟨_,rfl⟩
      have vget: ∀j,j<n * k2->vs[j]?=some (cs.getD j undef):=fun j hj=>by rw [hvs];simp [hj]
      have vlen:vs.length=es.flatten.length:=by rw [hvs,hfl];simp
      rw [List.nodup_cons] at hnd
      have hR: ∀w':World,(∀x∈bss.flatten,w'.heap[x]?=w.heap[x]?)->Trees vs (es.flatten.map trk) w' (.bool true) bss.flatten:=fun w' hw=>by
        refine ⟨hnd.2,bss,rfl,by rw [List.length_map,hfl,hl2],fun j e hj hse=>?_,fun j u e hu hj hse=>?_⟩
        · rw [List.getElem?_map] at hj
          obtain ⟨d,h0,rfl⟩:=Option.map_eq_some_iff.1 hj
          rw [trk_sca] at hse
          have ht:=hr j d h0
          cases d <;>first | (simp [E.sca] at hse;done) | skip
          generalize bss.getD j []=bj at ht ⊢
          generalize cs.getD j undef=c at ht
          cases ht;rfl
        · rw [List.getElem?_map] at hj
          obtain ⟨d,h0,rfl⟩:=Option.map_eq_some_iff.1 hj
          rw [trk_sca] at hse
          rw [trk_of hse]
          have hj2:j<n * k2:=by rw [<-hfl];exact (List.getElem?_eq_some_iff.1 h0).1
          rw [vget j hj2] at hu
          cases hu
          exact (hr j d h0).frame fun b hb=>hw b (mem_getD_flatten hb)
      have inv:Inv w (cG b (.bool true) bss.flatten) (hpF [.vec true k2 (cells vs es.flatten),.res (Trees vs (es.flatten.map trk))]):=two_inv hb (by rw [cells_len vlen,hfl];exact hle) hnd.1 (fun x hx=>hlt x (List.mem_cons_of_mem _ hx)) hR fun j c d hcj hdj=>by
        have hj:j<n * k2:=by
          have:=(List.getElem?_eq_some_iff.1 hdj).1
          rw [cells_len vlen,hfl] at this
          exact this
        have hcg:cs.getD j undef=c:=by
          obtain ⟨hj,e⟩:=Array.getElem?_eq_some_iff.1 hcj
          simp [Array.getD,hj,e]
        have hjl:j<es.flatten.length:=by omega
        have h0:es.flatten[j]?=some es.flatten[j]:=by simp [hjl]
        have ht:=hr j _ h0
        rw [cells_get (vget j hj) h0,hcg] at hdj
        cases hdj
        rw [hcg] at ht
        generalize es.flatten[j]=e0 at ht ⊢
        generalize bss.getD j []=bj at ht
        cases ht with
        | v hx=>exact ⟨.e (.v hx),okV.cell hx⟩
        | nil=>exact ⟨.e (.v rfl),rfl⟩
        | fs=>exact ⟨.e (.v rfl),rfl⟩
      refine ((h1 hpos hk vs vlen).ok w _ _ inv rfl fun j x d hx hd=>?_).mono fun en w' ⟨v',d',l',G1,q1,q2,q3,q4,q5⟩=>?_
      · rcases j with _ | _ | j
        · cases hx;cases hd
          show Rv w _ _ _ (.vec 0 es.length k2)
          rw [hn]
          refine Rv.vec (i:=0) (h:=hpF [.vec true k2 (cells vs es.flatten),.res (Trees vs (es.flatten.map trk))]) (by simp [hpF]) hm hc fun b' k' ds' e=>?_
          simp only [id_eq,two_hp,if_true,O.vec.injEq] at e
          obtain ⟨rfl,rfl,rfl⟩:=e
          exact ⟨rfl,by rw [cells_len vlen,hfl];exact Nat.le_refl _,fun h=>(by cases h),fun _=>⟨rfl,cs,T,(0,0),hb,hsz⟩⟩
        · cases hx;cases hd;exact .e (.v hz)
        · simp at hx
      · obtain ⟨G2,r1,r2,r3⟩:=q2 w' G1 v' q4 q3
        have x:=r3 _ _ q5
        have r1:=rv_e r1
        cases r1 with | v hok=>?_
        rcases x.vec 0 true k2 _ rfl with q | ⟨ds',e1,_,g⟩
        · simp [hpF] at q
        obtain ⟨g1,g2⟩:=g rfl
        have g1:G2.blk 0=b:=g1
        have hlt':b<w'.heap.size:=by rw [<-g1];exact r2.lt 0 (by simp [hpF,O.has])
        obtain ⟨_,cs',T',c1,c2,c3⟩:=(r2.vec 0 _ _ _ rfl).2 rfl
        rw [g1] at c1
        have hsz':cs'.size=cs.size:=by
          have g2:w'.shape? b=w.shape? b:=g2
          rw [shape_size c1,shape_size hb] at g2
          simpa using congrArg (Option.map Prod.snd) g2
        obtain ⟨ra,rc⟩:=r2.x.res 1 _ rfl
        obtain ⟨nd',bss',eb',el',sc',sl'⟩:=ra w' fun _ _=>rfl
        have hbn:b∉bss'.flatten:=fun hb2=>by
          rw [<-eb'] at hb2
          exact (rc b hb2).2.2.2.1 0 (by simp [hpF,O.has]) g1
        refine ⟨q1,hok,x.os,x.tape,x.output,x.size,fun b2 hb2 hn2=>x.others b2 hb2 (fun i q e=>hn2 ?_) (fun i R q hb3=>hn2 ?_),b::bss'.flatten,List.nodup_cons.2 ⟨hbn,by rw [<-eb'];exact nd'⟩,fun b2 hb2=>?_,?_⟩
        · have e:b=b2:=e
          rw [<-e];exact List.mem_cons_self
        · exact List.mem_cons_of_mem _ hb3
        · rcases List.mem_cons.1 hb2 with rfl | hb2
          · exact ⟨hlt',.inl List.mem_cons_self⟩
          · rw [<-eb'] at hb2
            refine ⟨(rc b2 hb2).1,?_⟩
            rcases x.rbnew 1 _ rfl b2 hb2 with ⟨j,R',_,q⟩ | q
            · exact .inl (List.mem_cons_of_mem _ q)
            · exact .inr q
        · refine TreeAt.fs (w:=w') (i:=i) (cap:=cap) bss' (hl.trans hn) hc hm hk' c1 (by omega) (by rw [el',List.length_map,hfl']) fun j d hd=>?_
          have hj:j<n * k2:=by rw [<-hfl'];exact (List.getElem?_eq_some_iff.1 hd).1
          have hjc:j<cs'.size:=by omega
          have hcg:cs'.getD j undef=cs'[j]:=by simp [Array.getD,hjc]
          have hv:=rv_e (c3 j cs'[j] _ (by simp [hjc]) (cells_get (vget j hj) hd)).1
          have htd:(es'.flatten.map trk)[j]?=some (trk d):=by rw [List.getElem?_map,hd];rfl
          rw [hcg]
          cases hsd:d.sca with
          | true=>
            rw [sc' j _ htd (by rw [trk_sca];exact hsd)]
            cases d <;>first | (simp [E.sca] at hsd;done) | skip
            generalize cs'[j]=c at hv
            cases hv with | v hx=>exact .v hx
          | false=>
            have t2:=sl' j _ _ (vget j hj) htd (by rw [trk_sca];exact hsd)
            rw [trk_of hsd] at t2
            have hcd:cellE (cs.getD j undef) d= .v (cs.getD j undef):=by cases d <;>first | rfl | (simp [E.sca] at hsd;done)
            rw [hcd] at hv
            generalize cs'[j]=c at hv
            cases hv
            exact t2
theorem one_hp {i:Nat} {R:World->Value->List Nat->Prop} :hpF [O.res R] i=if i=0 then .res R else .dead:=by
  cases i <;>simp [hpF]
theorem res_inv {w:World} {bs:List Nat} {v:Value} {R:World->Value->List Nat->Prop} (hlt: ∀x∈bs,x<w.heap.size) (hR: ∀w':World,(∀x∈bs,w'.heap[x]?=w.heap[x]?)->R w' v bs):Inv w (cG 0 v bs) (hpF [.res R]):=by
  have nh: ∀j,(hpF [O.res R] j).has=false:=fun j=>by rw [one_hp];split <;>rfl
  have no: ∀ {j:Nat} {o:O},hpF [O.res R] j=o->(∀R,o≠ .res R)->o= .dead:=fun {j o} e h1=>by
    rw [one_hp] at e
    split at e
    · exact absurd e.symm (h1 _)
    · exact e.symm
  refine ⟨fun j h=>?_,fun j k h=>?_,fun _ _ p=>p.elim,fun j ds e=>?_,fun j n k e=>?_,fun j b k ds e=>?_,fun j l e=>?_,⟨fun j b e=>(by cases e),fun j k b c e=>(by cases e),fun j m' e k hk=>rfl,fun j k m1 m2 e1 e2=>?_,fun j R' e=>?_⟩⟩
  · rw [nh] at h;cases h
  · rw [nh] at h;cases h
  · have:=no e (by simp);cases this
  · have:=no e (by simp);cases this
  · have:=no e (by simp);cases this
  · have:=no e (by simp);cases this
  · have:=no e1 (by simp);cases this
  · have one: ∀ {i R2},hpF [O.res R] i= .res R2->i=0:=fun {i R2} e=>by
      rw [one_hp] at e
      split at e
      · assumption
      · cases e
    have:=one e
    subst this
    cases e
    exact ⟨hR,fun x hx=>⟨hlt x hx,fun o p=>p.elim,fun j c e=>(by cases e),fun j hj=>(by rw [nh] at hj;cases hj),fun j R' e _=>(one e).symm⟩⟩
theorem markStruct {P:Program} {fn:FuncId} {sh:Value->Value} {e e':E} {z z':Int} {d:RF->D} (hz:okV (.int .i64 z)=true) (hd: ∀(w:World) (G:Gh) (h:Hp),Rv w G h (G.rv 0) (.rv 0)->Rv w G h (sh (G.rv 0)) (d id))
    (h1:Proc P fn (fun t=> [d t,.e (.v (.int .i64 z))]) (fun _=> [.res (Tree e)]) (fun _=> .e (.v (.int .i64 z'))) (fun _=> [.res (Tree e')])):MarkC P fn sh e e' z z':=by
  intro w v bs hnd hlt t
  have inv:Inv w (cG 0 v bs) (hpF [.res (Tree e)]):=res_inv hlt fun w' hw=>⟨hnd,t.frame hw⟩
  refine (h1.ok w _ _ inv rfl fun j x d hx hd2=>?_).mono fun en w' ⟨v',d',l',G1,q1,q2,q3,q4,q5⟩=>?_
  · rcases j with _ | _ | j
    · cases hx;cases hd2
      exact hd w (cG 0 v bs) (hpF [.res (Tree e)]) (Rv.rv (R:=Tree e) rfl t.cell)
    · cases hx;cases hd2;exact .e (.v hz)
    · simp at hx
  · obtain ⟨G2,r1,r2,r3⟩:=q2 w' G1 v' q4 q3
    have x:=r3 _ _ q5
    have r1:=rv_e r1
    cases r1 with | v hok=>?_
    obtain ⟨_,hrv⟩:=x.rvm 0 _ rfl
    have hrv:G2.rv 0=v:=hrv
    obtain ⟨ra,rc⟩:=r2.x.res 0 _ rfl
    obtain ⟨nd',t'⟩:=ra w' fun _ _=>rfl
    rw [hrv] at t'
    refine ⟨q1,hok,x.os,x.tape,x.output,x.size,fun b2 hb2 hn2=>x.others b2 hb2 (fun i q e=>?_) (fun i R q hb3=>hn2 hb3),G2.rb 0,nd',fun b2 hb2=>⟨(rc b2 hb2).1,?_⟩,t'⟩
    · simp only [id_eq,one_hp] at q
      split at q <;>cases q
    · rcases x.rbnew 0 _ rfl b2 hb2 with ⟨j,R',_,q⟩ | q
      · exact .inl q
      · exact .inr q
end Go.Proofs.Ytfplalbognalkaa.Ab
/- Marks in rows: what they are, and that rows keep their numbers. -/
namespace Go.Proofs.Ytfplalbognalkaa.Ab.NS
open Go
def mk2:Int->Ab.Row->Ab.Row
  | _, []=> []
  | k,_::l=>(decide (k % 3=0),k+1)::mk2 (k+2) l
theorem mk2_len: ∀(k:Int) (l:Ab.Row),(mk2 k l).length=l.length
  | _, []=>rfl
  | k,_::l=>by simp [mk2,mk2_len (k+2) l]
theorem mk2_get: ∀(k:Int) (l:Ab.Row) (i:Nat),i<l.length->(mk2 k l)[i]?=some (decide ((k+2 * i) % 3=0),k+2 * i+1)
  | _, [],_,h=>by simp at h
  | k,_::l,0,_=>by simp [mk2]
  | k,_::l,i+1,h=>by
    rw [mk2,List.getElem?_cons_succ,mk2_get (k+2) l i (by simpa using h)]
    have:k+2+2 * (i:Int)=k+2 * ((i+1:Nat):Int):=by omega
    rw [this]
def cnt:List Row->Int
  | []=>0
  | r::l=>2 * r.2.length+cnt l
theorem cnt_nonneg: ∀l:List Row,0<=cnt l
  | []=>Int.le_refl _
  | r::l=>by have:=cnt_nonneg l;simp only [cnt];omega
theorem cnt_drop {l:List Row} {i:Nat} {r:Row} (h:l[i]?=some r):cnt (l.drop i)=2 * r.2.length+cnt (l.drop (i+1)):=by
  obtain ⟨a,b⟩:=List.getElem?_eq_some_iff.1 h
  rw [List.drop_eq_getElem_cons a,b]
  rfl
def mkR:Int->List Row->List Row
  | _, []=> []
  | k,r::l=>(r.1,mk2 k r.2)::mkR (k+2 * r.2.length) l
theorem mkR_len: ∀(k:Int) (l:List Row),(mkR k l).length=l.length
  | _, []=>rfl
  | k,r::l=>by simp [mkR,mkR_len _ l]
theorem mkR_get: ∀(k:Int) (l:List Row) (i:Nat) (r:Row),l[i]?=some r->(mkR k l)[i]?=some (r.1,mk2 (k+cnt l-cnt (l.drop i)) r.2)
  | _, [],_,_,h=>by simp at h
  | k,a::l,0,r,h=>by
    simp at h
    subst h
    simp only [mkR,List.getElem?_cons_zero,List.drop_zero]
    rw [show k+cnt (a::l)-cnt (a::l)=k by omega]
  | k,a::l,i+1,r,h=>by
    rw [mkR,List.getElem?_cons_succ,mkR_get _ l i r (by simpa using h),List.drop_succ_cons]
    simp only [cnt]
    rw [show k+2 * (a.2.length:Int)+cnt l-cnt (l.drop i)=k+(2 * (a.2.length:Int)+cnt l)-cnt (l.drop i) by omega]
theorem flat_set {α:Type} {k:Nat} : ∀ {xs:List (List α)} {i c:Nat} {r:List α} (a:α),(∀e∈xs,e.length=k)->xs[i]?=some r->c<k->xs.flatten.set (i * k+c) a=(xs.set i (r.set c a)).flatten
  | [],_,_,_,_,_,h,_=>by simp at h
  | x::xs,0,c,r,a,hk,h,hc=>by
    simp at h
    subst h
    have:=hk x (by simp)
    rw [List.set_cons_zero,List.flatten_cons,List.flatten_cons,Nat.zero_mul,Nat.zero_add,List.set_append_left _ _ (by omega)]
  | x::xs,i+1,c,r,a,hk,h,hc=>by
    have:=hk x (by simp)
    rw [List.set_cons_succ,List.flatten_cons,List.flatten_cons,<-flat_set a (fun e he=>hk e (by simp [he])) (by simpa using h) hc,List.set_append_right _ _ (by rw [this,Nat.succ_mul];omega)]
    congr 2
    rw [this,Nat.succ_mul];omega
theorem cells_set {k:Nat} {xs:List (List E)} {i c off:Nat} {r:List E} {a:E} {ds ds':List D} (hd:ds=xs.flatten.map .e) (hk: ∀e∈xs,e.length=k) (hi:xs[i]?=some r) (hc:c<k) (ho:off=i * k+c) (h:ds'=ds.take off++ [.e a]++ds.drop (off+1)):
    ds'=(xs.set i (r.set c a)).flatten.map .e:=by
  have hil:i<xs.length:=(List.getElem?_eq_some_iff.1 hi).1
  have hl:off<ds.length:=by
    rw [hd,List.length_map,flatten_len hk,ho]
    have:(i+1) * k<=xs.length * k:=Nat.mul_le_mul_right k hil
    rw [Nat.succ_mul] at this
    omega
  rw [<-flat_set a hk hi hc,List.map_set,<-hd,<-ho,h,List.set_eq_take_append_cons_drop,if_pos hl]
  simp
theorem numss_vr: ∀l:Ab.Row,numss (l.map vr)=some []
  | []=>rfl
  | p::l=>by
    simp only [List.map_cons,numss,numss_vr l]
    rfl
theorem nums_ne {i:Nat} {es:List (List E)} (h:es≠ []):(E.fs i es).nums=(numss es).map fun l=>i::l:=by
  cases es with
  | nil=>exact absurd rfl h
  | cons a es=>rw [E.nums];intro h;cases h
theorem fs_vr (q:Nat) (l:Ab.Row): ∃ns,(E.fs q (l.map vr)).nums=some ns/\ns.Sublist [q]:=by
  cases l with
  | nil=>exact ⟨[],rfl,List.nil_sublist _⟩
  | cons p l=>
    refine ⟨[q],?_,List.Sublist.refl _⟩
    rw [nums_ne (by simp),numss_vr]
    rfl
theorem nums_rows: ∀L:List Row,∃ns,numss (L.map nrow)=some ns/\ns.Sublist (L.map Prod.fst)
  | []=>⟨[],rfl,List.nil_sublist _⟩
  | r::L=>by
    obtain ⟨a,h1,h2⟩:=fs_vr r.1 r.2
    obtain ⟨b,h3,h4⟩:=nums_rows L
    refine ⟨a++b,?_,?_⟩
    · simp only [List.map_cons,numss,nrow,numsr,h1]
      rw [h3]
      simp
    · exact h2.append h4
theorem nums_fst (q:Nat) (l:List Ab.Row):(nums q l).map Prod.fst=List.range' q l.length:=by
  induction l generalizing q with
  | nil=>rfl
  | cons r l ih=>rw [nums,List.map_cons,ih,List.length_cons,List.range'_succ]
theorem nums_snd (q:Nat) (l:List Ab.Row):(nums q l).map Prod.snd=l:=by
  induction l generalizing q with
  | nil=>rfl
  | cons r l ih=>rw [nums,List.map_cons,ih]
theorem unss_vr (l:Ab.Row):unss (l.map vr)=l.map vr:=by
  rw [unss_map,List.map_map]
  rfl
theorem un_rows (n:Nat) (L:List Row):(E.fs n (L.map nrow)).un= .sl (L.map fun r=>rsr r.2):=by
  rw [E.un,unss_map,List.map_map]
  congr 1
  refine List.map_congr_left fun r _=>?_
  simp only [Function.comp,nrow,List.map_cons,List.map_nil,E.un,unss_vr]
theorem cnt_sum: ∀(L:List Row) (l:List Ab.Row),L.map Prod.snd=l->cnt L<=2 * sumC cV l
  | [],l,h=>by subst h;simp [cnt,sumC]
  | r::L,l,h=>by
    subst h
    have:=cnt_sum L _ rfl
    simp only [List.map_cons,cnt,sumC,cV] at *
    omega
theorem cnt_le: ∀(L:List Row) (i:Nat),cnt (L.drop i)<=cnt L
  | [],i=>by rw [List.drop_nil];exact Int.le_refl _
  | r::L,0=>Int.le_refl _
  | r::L,i+1=>by
    have:=cnt_le L i
    rw [List.drop_succ_cons]
    simp only [cnt]
    omega
theorem rv_id {w:World} {G:Gh} {h:Hp} {v:Value} {i:Nat} (r:Rv w G h v (.rv i)):v=id (G.rv i):=by
  cases r;rfl
end Go.Proofs.Ytfplalbognalkaa.Ab.NS
/- Marks in rows, walked: rows of scalars. -/
namespace Go.Proofs.Ytfplalbognalkaa.Ab.NS
open Go
theorem vec_side {n k:Nat} {z z':Int} {xs xs':List E} :Side (fun t=> [.vec (t 0) n k,.int z]) (fun _=> [.vec true k (xs.map .e)]) (fun _=> .int z') (fun _=> [.vec true k (xs'.map .e)]):=
  ⟨fun t=>rfl,rfl,fun t=>by simp only [List.map_cons,List.map_nil,O.ren,rens_e],by intro o ho;rw [List.mem_singleton] at ho;subst ho;simp only [O.lt,lts_e],fun t=>rfl,fun t=>by simp only [List.map_cons,List.map_nil,O.ren,rens_e],Nat.le_refl _⟩
set_option maxRecDepth 100000 in
set_option maxHeartbeats 1000000 in
theorem ok60 (l:Ab.Row) (es:List (List E)) (he:es=l.map vr) (k:Int) (hk:0<=k) (hk2:k+2 * es.length<=140737488355328):
    Proc Try.prog 60 (fun t=> [.vec (t 0) es.length 2,.int k]) (fun _=> [.vec true 2 (es.flatten.map .e)]) (fun _=> .int (k+2 * es.length)) (fun _=> [.vec true 2 (((mk2 k l).map vr).flatten.map .e)]):=procOf mixed p60 vec_side fun A P hA hP=>(by
  have hl1:es.length=l.length:=by rw [he];simp
  have hes: ∀e∈es,e.length=2:=by
    rw [he]
    intro e h
    obtain ⟨p,_,rfl⟩:=List.mem_map.1 h
    rfl
  obtain ⟨ts,hts⟩: ∃ts,ts=(mk2 k l).map vr:=⟨_,rfl⟩
  have htl:ts.length=es.length:=by rw [hts,hl1,List.length_map,mk2_len]
  have htg: ∀i:Nat,i<es.length->ts[i]?=some [E.bool (decide ((k+2 * i) % 3=0)),E.int (k+2 * i+1)]:=fun i h=>by
    rw [hts,List.getElem?_map,mk2_get k l i (by omega)]
    rfl
  obtain ⟨kr,hkr⟩: ∃r,r=k+2 * (es.length:Int):=⟨_,rfl⟩
  obtain ⟨n,hn⟩: ∃n,n=es.length:=⟨_,rfl⟩
  obtain ⟨ys0,hys0⟩: ∃ys,ys=es.flatten.map D.e:=⟨_,rfl⟩
  obtain ⟨zs,hzs⟩: ∃zs,zs=ts.flatten.map D.e:=⟨_,rfl⟩
  rw [<-hts,<-hkr,<-hzs,<-hn,<-hys0]
  cbv
  repeat' first | with_reducible rfl | with_reducible refine And.intro ?_ ?_ | ((with_reducible intro hcc);first | (cases hcc;done) | skip) | ((with_reducible first | show goC _ _ _ _ _ _ _ _ | show goOps _ _ _ _ _ | show goD _ _ _ _ _ _);cbv) | ((with_reducible show okWr _ _=_);rfl) | ((with_reducible first | refine hA.fin_pl _ _ _ ?_ | refine hA.len _ _ _ _ _ fun z hz hb=>?_ | refine hA.off _ _ _ _ fun b hb=>?_ | refine hA.plus _ _ _ fun b hb=>?_);cbv) | ((with_reducible first | refine hA.st _ _ _ _ _ ⟨?_,fun ds hds=>?_⟩ | refine hA.sapp _ _ _ ⟨?_,fun sl hsl=>?_⟩);rotate_left;cbv) | (simp only [hA.lits];cbv)
  all_goals try simp only [hA.ar,inR,n_cast,Int.ofNat_eq_natCast,Option.getD_some,Option.getD_none] at *
  all_goals try omega
  refine hA.loopI (fun m s=> ∃(i k1:Int) (xs:List (List E)),0<=i/\m+i=n/\k1=k+2 * i/\xs.length=n/\(∀e∈xs,e.length=2)/\(∀j:Nat,j<i->xs[j]?=ts[j]?)/\
        s=⟨[(5,.int i),(0,.vec 0 n 2),(1,.int k1)], [.vec true 2 (xs.flatten.map .e)]⟩) n _
      (Weak.keep (env':= [(5,.int 0),(0,.vec 0 n 2),(1,.int k)]) ⟨rfl,rfl,rfl,trivial⟩)
      ⟨0,k,es,by omega,by omega,by omega,by omega,hes,fun j hj=>by omega,by rw [hys0]⟩ ?_
  rintro m s K' ⟨i,k1,xs,h0,h1,hk1,h2,h3,h4,rfl⟩ hK
  obtain ⟨ys,hys⟩: ∃ys,ys=xs.flatten.map D.e:=⟨_,rfl⟩
  have hyl:ys.length=xs.length * 2:=by rw [hys,List.length_map,flatten_len h3]
  rw [<-hys]
  by_cases hin:(0:Int)<=i/\i<n
  · have e1:A.lt i (Int.ofNat n)=true:=by rw [hA.lt,Int.ofNat_eq_natCast];exact decide_eq_true (by omega)
    obtain ⟨b0,hb0⟩: ∃b,b=A.eq (A.mod k1 3) 0:=⟨_,rfl⟩
    have hb1:b0=decide (k1 % 3=0):=by rw [hb0,hA.eq,hA.mod]
    have hK2: ∀(b c:Nat) (ds1 ds2:List D) (env:List (Nat×D)),ds2=ds1.take c++ [.e (E.int (k1+1))]++ds1.drop (c+1)->ds1=ys.take b++ [.e (E.bool b0)]++ys.drop (b+1)->b=0+i.toNat * 2->c=0+i.toNat * 2+1->
        subL [(5,.int (i+1)),(0,.vec 0 n 2),(1,.int (k1+1+1))] env->K' ⟨env, [.vec true 2 ds2]⟩:=fun b c ds1 ds2 env q4 q3 q1 q2 q5=>by
      obtain ⟨r,hr⟩: ∃r,xs[i.toNat]?=some r:=⟨_,List.getElem?_eq_getElem (by omega)⟩
      have hrl:=h3 r (List.mem_of_getElem? hr)
      have d1:=cells_set hys h3 hr (c:=0) (by omega) (by omega) q3
      have h3': ∀e∈xs.set i.toNat (r.set 0 (E.bool b0)),e.length=2:=fun e h=>by
        rcases List.mem_or_eq_of_mem_set h with h | rfl
        · exact h3 e h
        · rw [List.length_set];exact hrl
      have d2:=cells_set d1 h3' (List.getElem?_set_self (by omega)) (c:=1) (by omega) (by omega) q4
      rw [List.set_set] at d2
      have hrow:(r.set 0 (E.bool b0)).set 1 (E.int (k1+1))= [E.bool b0,E.int (k1+1)]:=by
        match r,hrl with
        | [x,y],_=>rfl
      rw [hrow] at d2
      refine hK _ (m-1) _ (by omega) (Weak.keep q5) ⟨i+1,k1+1+1,xs.set i.toNat [E.bool b0,E.int (k1+1)],by omega,by omega,by omega,by rw [List.length_set];exact h2,fun e h=>?_,fun j hj=>?_,by rw [d2]⟩
      · rcases List.mem_or_eq_of_mem_set h with h | rfl
        · exact h3 e h
        · rfl
      · by_cases hji:(j:Int)<i
        · rw [List.getElem?_set_ne (show i.toNat≠j by omega)];exact h4 j hji
        · have:j=i.toNat:=by omega
          subst this
          rw [List.getElem?_set_self (by omega),htg _ (by omega),hb1,hk1,show k+2 * i=k+2 * ((i.toNat:Nat):Int) by omega]
    clear hK h4 htg hts he
    cbv
    repeat' first | with_reducible rfl | (simp only [e1,<-hb0];cbv) | with_reducible refine And.intro ?_ ?_ | ((with_reducible intro hcc);first | (cases hcc;done) | skip) | ((with_reducible first | show goC _ _ _ _ _ _ _ _ | show goOps _ _ _ _ _ | show goD _ _ _ _ _ _);cbv) | ((with_reducible show okWr _ _=_);rfl) | ((with_reducible first | refine hA.fin_pl _ _ _ ?_ | refine hA.len _ _ _ _ _ fun z hz hb=>?_ | refine hA.off _ _ _ _ fun b hb=>?_ | refine hA.plus _ _ _ fun b hb=>?_);cbv) | ((with_reducible first | refine hA.st _ _ _ _ _ ⟨?_,fun ds hds=>?_⟩ | refine hA.sapp _ _ _ ⟨?_,fun sl hsl=>?_⟩);rotate_left;cbv) | (simp only [hA.lits];cbv)
    all_goals try simp only [hA.ar,inR,n_cast,Int.ofNat_eq_natCast,Option.getD_some,Option.getD_none] at *
    all_goals first
      | omega
      | exact hK2 _ _ _ _ _ (by assumption) (by assumption) (by omega) (by omega) ⟨rfl,rfl,rfl,trivial⟩
      | exact finv_refl hA
      | (subst_vars;simp only [List.length_append,List.length_take,List.length_drop,List.length_cons,List.length_nil];omega)
      | (trace_state;fail)
  · have e1:A.lt i (Int.ofNat n)=false:=by rw [hA.lt,Int.ofNat_eq_natCast];exact decide_eq_false (by omega)
    have hxe:xs=ts:=by
      refine List.ext_getElem? fun j=>?_
      by_cases hj:(j:Int)<i
      · exact h4 j hj
      · rw [List.getElem?_eq_none (by omega),List.getElem?_eq_none (by omega)]
    have hyz:ys=zs:=by rw [hys,hzs,hxe]
    have hkk:k1=kr:=by omega
    subst hyz hkk
    clear hK h4 htg hts he
    cbv
    repeat' first | with_reducible rfl | (simp only [e1];cbv) | with_reducible refine And.intro ?_ ?_ | ((with_reducible intro hcc);first | (cases hcc;done) | skip) | ((with_reducible first | show goC _ _ _ _ _ _ _ _ | show goOps _ _ _ _ _ | show goD _ _ _ _ _ _);cbv) | ((with_reducible show okWr _ _=_);rfl) | ((with_reducible first | refine hA.fin_pl _ _ _ ?_ | refine hA.len _ _ _ _ _ fun z hz hb=>?_ | refine hA.off _ _ _ _ fun b hb=>?_ | refine hA.plus _ _ _ fun b hb=>?_);cbv) | ((with_reducible first | refine hA.st _ _ _ _ _ ⟨?_,fun ds hds=>?_⟩ | refine hA.sapp _ _ _ ⟨?_,fun sl hsl=>?_⟩);rotate_left;cbv) | (simp only [hA.lits];cbv)
    all_goals try simp only [hA.ar,inR,n_cast,Int.ofNat_eq_natCast,Option.getD_some,Option.getD_none] at *
    all_goals first
      | omega
      | exact finv_refl hA
      | (subst_vars;simp only [List.length_append,List.length_take,List.length_drop,List.length_cons,List.length_nil];omega)
      | (trace_state;fail))
end Go.Proofs.Ytfplalbognalkaa.Ab.NS
/- Marks in rows of rows, walked. -/
namespace Go.Proofs.Ytfplalbognalkaa.Ab.NS
open Go
set_option maxRecDepth 100000 in
theorem ok60z (k:Int) (hk:0<=k) (hk2:k<=140737488355328):Plain Try.prog 60 [.e (.sl []),.int k] (.int k):=okOf mixed p60 fun A P hA hP=>(by
  obtain ⟨es,hes⟩: ∃es:List (List E),es= []:=⟨_,rfl⟩
  have hl:es.length=0:=by rw [hes];rfl
  obtain ⟨i0,hi0⟩: ∃i:Int,i=0:=⟨_,rfl⟩
  obtain ⟨z1,hz1⟩: ∃z:Int,z=es.length:=⟨_,rfl⟩
  rw [<-hes]
  cbv
  repeat' first | with_reducible rfl | with_reducible refine And.intro ?_ ?_ | ((with_reducible intro hcc);first | (cases hcc;done) | skip) | ((with_reducible first | show goC _ _ _ _ _ _ _ _ | show goOps _ _ _ _ _ | show goD _ _ _ _ _ _);cbv) | ((with_reducible show okWr _ _=_);rfl) | ((with_reducible first | refine hA.fin_pl _ _ _ ?_ | refine hA.len _ _ _ _ _ fun z hz hb=>?_ | refine hA.off _ _ _ _ fun b hb=>?_ | refine hA.plus _ _ _ fun b hb=>?_);cbv) | ((with_reducible first | refine hA.st _ _ _ _ _ ⟨?_,fun ds hds=>?_⟩ | refine hA.sapp _ _ _ ⟨?_,fun sl hsl=>?_⟩);rotate_left;cbv) | (simp only [hA.lits];cbv)
  all_goals try simp only [hA.ar,inR,n_cast,Int.ofNat_eq_natCast,Option.getD_some,Option.getD_none] at *
  all_goals try omega
  refine hA.loopI (fun m s=>s=⟨[(5,.int i0),(0,.e (.sl es)),(1,.int k)], []⟩) 0 _
      (Weak.keep (env':= [(5,.int i0),(0,.e (.sl es)),(1,.int k)]) ⟨by rw [hi0];rfl,rfl,rfl,trivial⟩) rfl ?_
  rintro m s K' rfl hK
  have e1:A.lt i0 z1=false:=by rw [hA.lt];exact decide_eq_false (by omega)
  cbv
  repeat' first | with_reducible rfl | (simp only [e1];cbv) | with_reducible refine And.intro ?_ ?_ | ((with_reducible intro hcc);first | (cases hcc;done) | skip) | ((with_reducible first | show goC _ _ _ _ _ _ _ _ | show goOps _ _ _ _ _ | show goD _ _ _ _ _ _);cbv) | ((with_reducible show okWr _ _=_);rfl) | ((with_reducible refine hA.len es _ _ _ _ fun z hz hb=>?_);(have e6:=hz1.trans hz.symm);subst e6;cbv) | ((with_reducible first | refine hA.fin_pl _ _ _ ?_ | refine hA.len _ _ _ _ _ fun z hz hb=>?_ | refine hA.off _ _ _ _ fun b hb=>?_ | refine hA.plus _ _ _ fun b hb=>?_);cbv) | ((with_reducible first | refine hA.st _ _ _ _ _ ⟨?_,fun ds hds=>?_⟩ | refine hA.sapp _ _ _ ⟨?_,fun sl hsl=>?_⟩);rotate_left;cbv) | (simp only [hA.lits];cbv)
  all_goals try simp only [hA.ar,inR,n_cast,Int.ofNat_eq_natCast,Option.getD_some,Option.getD_none] at *
  all_goals first
    | omega
    | (trace_state;fail))
def fse (r:Row):E:= .fs r.1 (r.2.map vr)
theorem flat_nrow (L:List Row):(L.map nrow).flatten=L.map fse:=by
  induction L with
  | nil=>rfl
  | cons r L ih=>rw [List.map_cons,List.flatten_cons,ih];rfl
theorem trk_fse (L:List Row):(L.map fse).map trk=L.map fse:=by
  rw [List.map_map]
  rfl
theorem cells_fse: ∀(vs:List Value) (L:List Row),vs.length=L.length->cells vs (L.map fse)=vs.map fun v=> .e (.v v)
  | [], [],_=>rfl
  | v::vs,r::L,h=>by
    have:=cells_fse vs L (by simpa using h)
    simp only [cells,List.map_cons,List.zipWith_cons_cons] at this ⊢
    rw [this]
    rfl
  | [],_::_,h=>by simp at h
  | _::_, [],h=>by simp at h
theorem okV_int {k:Int} (h:0<=k) (h2:k<=140737488355328):okV (.int .i64 k)=true:=by
  simp only [okV,decide_eq_true_eq]
  have h3:IntKind.i64.min= -9223372036854775808:=by decide
  have h4:IntKind.i64.max=9223372036854775807:=by decide
  omega
theorem sca_vr (l:Ab.Row): ∀e∈(l.map vr).flatten,e.sca=true:=fun e h=>by
  obtain ⟨x,h1,h2⟩:=List.mem_flatten.1 h
  obtain ⟨p,_,rfl⟩:=List.mem_map.1 h1
  simp only [List.mem_cons,List.not_mem_nil,or_false] at h2
  rcases h2 with rfl | rfl <;>rfl
theorem len_vr (l:Ab.Row): ∀e∈l.map vr,e.length=2:=fun e h=>by
  obtain ⟨p,_,rfl⟩:=List.mem_map.1 h
  rfl
theorem mark81 (r:Row) (k:Int) (hk:0<=k) (hk2:k+2 * r.2.length<=140737488355328):MarkC Try.prog 60 id (fse r) (fse (r.1,mk2 k r.2)) k (k+2 * r.2.length):=by
  refine markLeaf (k:=2) (sca_vr _) (sca_vr _) (by simp [mk2_len]) (len_vr _) (okV_int hk (by omega)) (fun h=>?_) (fun _ _=>?_) (len_vr _)
  · have h:r.2= []:=by simpa using h
    rw [h]
    have:=ok60z k hk (by omega)
    simpa using this
  · have:=ok60 r.2 (r.2.map vr) rfl k hk (by simpa using hk2)
    simp only [List.length_map] at this ⊢
    exact this
theorem res_side {n k:Nat} {z z':Int} {xs xs':List E} {R R':World->Value->List Nat->Prop} :Side (fun t=> [.vec (t 0) n k,.int z]) (fun _=> [.vec true k (xs.map .e),.res R]) (fun _=> .int z') (fun _=> [.vec true k (xs'.map .e),.res R']):=
  ⟨fun t=>rfl,rfl,fun t=>by simp only [List.map_cons,List.map_nil,O.ren,rens_e],by intro o ho;simp only [List.mem_cons,List.not_mem_nil,or_false] at ho;rcases ho with rfl | rfl <;>simp only [O.lt,lts_e],fun t=>rfl,fun t=>by simp only [List.map_cons,List.map_nil,O.ren,rens_e],Nat.le_refl _⟩
set_option maxRecDepth 100000 in
set_option maxHeartbeats 1000000 in
theorem w50 (L:List Row) (vs:List Value) (hv:vs.length=L.length) (k:Int) (hk:0<=k) (hk2:k+cnt L<=140737488355328) (hlen:L.length<=1048576):
    Proc Try.prog 20 (fun t=> [.vec (t 0) L.length 1,.int k]) (fun _=> [.vec true 1 ((vs.map E.v).map .e),.res (Trees vs (L.map fse))]) (fun _=> .int (k+cnt L)) (fun _=> [.vec true 1 ((vs.map E.v).map .e),.res (Trees vs ((mkR k L).map fse))]):=procOf mixed p20 res_side fun A P hA hP=>(by
  obtain ⟨kr,hkr⟩: ∃r,r=k+cnt L:=⟨_,rfl⟩
  obtain ⟨n,hn⟩: ∃n,n=L.length:=⟨_,rfl⟩
  obtain ⟨ds,hds⟩: ∃ds:List D,ds=(vs.map E.v).map .e:=⟨_,rfl⟩
  have hdl:ds.length=n:=by rw [hds,hn,<-hv];simp
  obtain ⟨R0,hR0⟩: ∃R,R=Trees vs (L.map fse):=⟨_,rfl⟩
  obtain ⟨RF,hRF⟩: ∃R,R=Trees vs ((mkR k L).map fse):=⟨_,rfl⟩
  rw [<-hkr,<-hn,<-hds,<-hR0,<-hRF]
  cbv
  repeat' first | with_reducible rfl | with_reducible refine And.intro ?_ ?_ | ((with_reducible intro hcc);first | (cases hcc;done) | skip) | ((with_reducible first | show goC _ _ _ _ _ _ _ _ | show goOps _ _ _ _ _ | show goD _ _ _ _ _ _);cbv) | ((with_reducible show okWr _ _=_);rfl) | ((with_reducible first | refine hA.fin_pl _ _ _ ?_ | refine hA.len _ _ _ _ _ fun z hz hb=>?_ | refine hA.off _ _ _ _ fun b hb=>?_);cbv) | ((with_reducible first | refine hA.sapp _ _ _ ⟨?_,fun sl hsl=>?_⟩);rotate_left;cbv) | (simp only [hA.lits];cbv)
  all_goals try simp only [hA.ar,inR,n_cast,Int.ofNat_eq_natCast,Option.getD_some,Option.getD_none] at *
  all_goals try omega
  refine hA.loopI (fun m s=> ∃(i k1:Int) (ts:List E),0<=i/\m+i=n/\k1=k+cnt L-cnt (L.drop i.toNat)/\ts.length=n/\(∀j:Nat,j<i->ts[j]?=((mkR k L).map fse)[j]?)/\(∀j:Nat,i<=j->ts[j]?=(L.map fse)[j]?)/\
        s=⟨[(5,.int i),(0,.vec 0 n 1),(1,.int k1)], [.vec true 1 ds,.res (Trees vs ts)]⟩) n _
      (Weak.keep (env':= [(5,.int 0),(0,.vec 0 n 1),(1,.int k)]) ⟨rfl,rfl,rfl,trivial⟩)
      ⟨0,k,L.map fse,by omega,by omega,(by rw [show (0:Int).toNat=0 from rfl,List.drop_zero];omega),by rw [List.length_map,hn],(fun j hj=>by omega),fun j _=>rfl,by rw [hR0]⟩ ?_
  rintro m s K' ⟨i,k1,ts,h0,h1,hk1,h2,h3,h4,rfl⟩ hK
  obtain ⟨R1,hR1⟩: ∃R,R=Trees vs ts:=⟨_,rfl⟩
  rw [<-hR1]
  by_cases hin:(0:Int)<=i/\i<n
  · have e1:A.lt i (Int.ofNat n)=true:=by rw [hA.lt,Int.ofNat_eq_natCast];exact decide_eq_true (by omega)
    obtain ⟨r,hr⟩: ∃r,L[i.toNat]?=some r:=⟨_,List.getElem?_eq_getElem (by omega)⟩
    obtain ⟨v,hvi⟩: ∃v,vs[i.toNat]?=some v:=⟨_,List.getElem?_eq_getElem (by omega)⟩
    have hdr:=cnt_drop hr
    have hc0:=cnt_nonneg (L.drop (i.toNat+1))
    have hc1:=cnt_nonneg L
    have hcd:cnt (L.drop i.toNat)<=cnt L:=cnt_le L i.toNat
    have ld: ∀ {b:Nat} {c:D},b=0+i.toNat * 1->c=ds.getD b default->c= .e (.v v):=fun {b c} q1 q2=>by
      rw [q2,hds,show b=i.toNat by omega,List.getD,List.getElem?_map,List.getElem?_map,hvi]
      rfl
    obtain ⟨k2,hk2'⟩: ∃k,k=k1+2 * (r.2.length:Int):=⟨_,rfl⟩
    have hmk:=mark81 r k1 (by omega) (by omega)
    rw [<-hk2'] at hmk
    have hti:ts[i.toNat]?=some (fse r):=by rw [h4 i.toNat (by omega),List.getElem?_map,hr];rfl
    obtain ⟨R2,hR2⟩: ∃R,R=Trees vs (ts.set i.toNat (fse (r.1,mk2 k1 r.2))):=⟨_,rfl⟩
    have hcal: ∀f,CallE Try.prog 60 [.e (.v v),.int k1] [(1,.res R1)] f {d:=some (.int k2),wr:= [(1,.res R2)],tc:= [1]} :=fun f=>by
      rw [hR1,hR2]
      exact hmk.callEs hvi hti rfl rfl
    have hK2: ∀(env:List (Nat×D)),subL [(5,.int (i+1)),(0,.vec 0 n 1),(1,.int k2)] env->K' ⟨env, [.vec true 1 ds,.res R2]⟩:=fun env q5=>by
      refine hK _ (m-1) _ (by omega) (Weak.keep q5) ⟨i+1,k2,_,by omega,by omega,?_,?_,fun j hj=>?_,fun j hj=>?_,by rw [hR2]⟩
      · rw [show (i+1).toNat=i.toNat+1 by omega];omega
      · rw [List.length_set];exact h2
      · by_cases hji:(j:Int)<i
        · rw [List.getElem?_set_ne (show i.toNat≠j by omega)];exact h3 j hji
        · have:j=i.toNat:=by omega
          subst this
          rw [List.getElem?_set_self (by omega),List.getElem?_map,mkR_get _ _ _ _ hr,hk1]
          rfl
      · rw [List.getElem?_set_ne (show i.toNat≠j by omega)];exact h4 j (by omega)
    clear hK h3 h4 hti hmk hk1 hdr hk2' hR1 hR2
    cbv
    repeat' first | with_reducible rfl | (simp only [e1];cbv) | with_reducible refine And.intro ?_ ?_ | ((with_reducible intro hcc);first | (cases hcc;done) | skip) | ((with_reducible first | show goC _ _ _ _ _ _ _ _ | show goOps _ _ _ _ _ | show goD _ _ _ _ _ _);cbv) | ((with_reducible show okWr _ _=_);rfl) | ((with_reducible show A.call _ _ _ _ _ 60 _ _ _);refine callK_res hA hP rfl ?_ hcal;cbv) | ((with_reducible refine hA.ld1 _ _ _ ⟨?_,fun c hc=>?_⟩);rotate_left;(have e9:=ld hb hc);subst e9;cbv) | ((with_reducible first | refine hA.fin_pl _ _ _ ?_ | refine hA.len _ _ _ _ _ fun z hz hb=>?_ | refine hA.off _ _ _ _ fun b hb=>?_);cbv) | ((with_reducible first | refine hA.sapp _ _ _ ⟨?_,fun sl hsl=>?_⟩);rotate_left;cbv) | (simp only [hA.lits];cbv)
    all_goals try simp only [hA.ar,inR,n_cast,Int.ofNat_eq_natCast,Option.getD_some,Option.getD_none] at *
    all_goals first
      | omega
      | exact hK2 _ ⟨rfl,rfl,rfl,trivial⟩
      | exact finv_refl hA
      | (trace_state;fail)
  · have e1:A.lt i (Int.ofNat n)=false:=by rw [hA.lt,Int.ofNat_eq_natCast];exact decide_eq_false (by omega)
    have hte:ts=(mkR k L).map fse:=by
      refine List.ext_getElem? fun j=>?_
      by_cases hj:(j:Int)<i
      · exact h3 j hj
      · rw [List.getElem?_eq_none (by omega),List.getElem?_eq_none (by rw [List.length_map,mkR_len];omega)]
    have hRR:R1=RF:=by rw [hR1,hRF,hte]
    have hkk:k1=kr:=by
      rw [List.drop_eq_nil_of_le (by omega)] at hk1
      simp only [cnt] at hk1
      omega
    subst hRR hkk
    clear hK h3 h4
    cbv
    repeat' first | with_reducible rfl | (simp only [e1];cbv) | with_reducible refine And.intro ?_ ?_ | ((with_reducible intro hcc);first | (cases hcc;done) | skip) | ((with_reducible first | show goC _ _ _ _ _ _ _ _ | show goOps _ _ _ _ _ | show goD _ _ _ _ _ _);cbv) | ((with_reducible show okWr _ _=_);rfl) | ((with_reducible first | refine hA.fin_pl _ _ _ ?_ | refine hA.len _ _ _ _ _ fun z hz hb=>?_ | refine hA.off _ _ _ _ fun b hb=>?_);cbv) | ((with_reducible first | refine hA.sapp _ _ _ ⟨?_,fun sl hsl=>?_⟩);rotate_left;cbv) | (simp only [hA.lits];cbv)
    all_goals try simp only [hA.ar,inR,n_cast,Int.ofNat_eq_natCast,Option.getD_some,Option.getD_none] at *
    all_goals first
      | omega
      | exact finv_refl hA
      | (trace_state;fail))
theorem ok20z (k:Int) (hk:0<=k) (hk2:k<=140737488355328):Plain Try.prog 20 [.e (.sl []),.int k] (.int k):=okOf mixed p20 fun A P hA hP=>(by
  obtain ⟨es,hes⟩: ∃es:List (List E),es= []:=⟨_,rfl⟩
  have hl:es.length=0:=by rw [hes];rfl
  obtain ⟨i0,hi0⟩: ∃i:Int,i=0:=⟨_,rfl⟩
  obtain ⟨z1,hz1⟩: ∃z:Int,z=es.length:=⟨_,rfl⟩
  rw [<-hes]
  cbv
  repeat' first | with_reducible rfl | with_reducible refine And.intro ?_ ?_ | ((with_reducible intro hcc);first | (cases hcc;done) | skip) | ((with_reducible first | show goC _ _ _ _ _ _ _ _ | show goOps _ _ _ _ _ | show goD _ _ _ _ _ _);cbv) | ((with_reducible show okWr _ _=_);rfl) | ((with_reducible first | refine hA.fin_pl _ _ _ ?_ | refine hA.len _ _ _ _ _ fun z hz hb=>?_ | refine hA.off _ _ _ _ fun b hb=>?_);cbv) | ((with_reducible first | refine hA.sapp _ _ _ ⟨?_,fun sl hsl=>?_⟩);rotate_left;cbv) | (simp only [hA.lits];cbv)
  all_goals try simp only [hA.ar,inR,n_cast,Int.ofNat_eq_natCast,Option.getD_some,Option.getD_none] at *
  all_goals try omega
  refine hA.loopI (fun m s=>s=⟨[(5,.int i0),(0,.e (.sl es)),(1,.int k)], []⟩) 0 _
      (Weak.keep (env':= [(5,.int i0),(0,.e (.sl es)),(1,.int k)]) ⟨by rw [hi0];rfl,rfl,rfl,trivial⟩) rfl ?_
  rintro m s K' rfl hK
  have e1:A.lt i0 z1=false:=by rw [hA.lt];exact decide_eq_false (by omega)
  cbv
  repeat' first | with_reducible rfl | (simp only [e1];cbv) | with_reducible refine And.intro ?_ ?_ | ((with_reducible intro hcc);first | (cases hcc;done) | skip) | ((with_reducible first | show goC _ _ _ _ _ _ _ _ | show goOps _ _ _ _ _ | show goD _ _ _ _ _ _);cbv) | ((with_reducible show okWr _ _=_);rfl) | ((with_reducible refine hA.len es _ _ _ _ fun z hz hb=>?_);(have e6:=hz1.trans hz.symm);subst e6;cbv) | ((with_reducible first | refine hA.fin_pl _ _ _ ?_ | refine hA.len _ _ _ _ _ fun z hz hb=>?_ | refine hA.off _ _ _ _ fun b hb=>?_);cbv) | ((with_reducible first | refine hA.sapp _ _ _ ⟨?_,fun sl hsl=>?_⟩);rotate_left;cbv) | (simp only [hA.lits];cbv)
  all_goals try simp only [hA.ar,inR,n_cast,Int.ofNat_eq_natCast,Option.getD_some,Option.getD_none] at *
  all_goals first
    | omega
    | (trace_state;fail))
theorem ok20 (L:List Row) (n:Nat) (k:Int) (hk:0<=k) (hk2:k+cnt L<=140737488355328) (hlen:L.length<=1048576):MarkC Try.prog 20 id (.fs n (L.map nrow)) (.fs n ((mkR k L).map nrow)) k (k+cnt L):=by
  have h0:=cnt_nonneg L
  have hs: ∀(L:List Row) (j:Nat),((L.map nrow).flatten[j]?).map E.sca=(L[j]?).map fun _=>false:=fun L j=>by
    rw [flat_nrow,List.getElem?_map,Option.map_map]
    rfl
  have hk1: ∀(L:List Row),∀e∈L.map nrow,e.length=1:=fun L e h=>by
    obtain ⟨p,_,rfl⟩:=List.mem_map.1 h
    rfl
  refine markOuter (k:=1) (fun j=>?_) (by simp [mkR_len]) (hk1 _) (okV_int hk (by omega)) (fun h=>?_) (fun _ _ vs hvs=>?_) (hk1 _)
  · rw [hs,hs]
    by_cases hj:j<L.length
    · rw [List.getElem?_eq_getElem (l:=L) hj,List.getElem?_eq_getElem (l:=mkR k L) (by rw [mkR_len];exact hj)]
      rfl
    · rw [List.getElem?_eq_none (l:=L) (by omega),List.getElem?_eq_none (l:=mkR k L) (by rw [mkR_len];omega)]
  · have h:L= []:=by simpa using h
    rw [h]
    have:=ok20z k hk (by omega)
    simpa [cnt] using this
  · rw [flat_nrow,List.length_map] at hvs
    have:=w50 L vs hvs k hk hk2 hlen
    rw [flat_nrow,flat_nrow,trk_fse,trk_fse,cells_fse _ _ hvs,cells_fse _ _ (hvs.trans (mkR_len _ _).symm),List.length_map]
    rw [List.map_map] at this
    exact this
end Go.Proofs.Ytfplalbognalkaa.Ab.NS
/- Marks in flat plans: what they are. -/
namespace Go.Proofs.Ytfplalbognalkaa.Ab
open Go
def mkL {α:Type} (f:Int->α->α) (c:α->Int):Int->List α->List α
  | _, []=> []
  | k,a::l=>f k a::mkL f c (k+c a) l
theorem mkL_len {α:Type} (f:Int->α->α) (c:α->Int): ∀(k:Int) (l:List α),(mkL f c k l).length=l.length
  | _, []=>rfl
  | k,a::l=>by simp [mkL,mkL_len f c _ l]
theorem mkL_get {α:Type} (f:Int->α->α) (c:α->Int): ∀(k:Int) (l:List α) (i:Nat) (a:α),l[i]?=some a->(mkL f c k l)[i]?=some (f (k+sumC c l-sumC c (l.drop i)) a)
  | _, [],_,_,h=>by simp at h
  | k,b::l,0,a,h=>by
    simp at h
    subst h
    simp only [mkL,List.getElem?_cons_zero,List.drop_zero]
    rw [show k+sumC c (b::l)-sumC c (b::l)=k by omega]
  | k,b::l,i+1,a,h=>by
    rw [mkL,List.getElem?_cons_succ,mkL_get f c _ l i a (by simpa using h),List.drop_succ_cons]
    simp only [sumC]
    rw [show k+c b+sumC c l-sumC c (l.drop i)=k+(c b+sumC c l)-sumC c (l.drop i) by omega]
theorem sumC_le {α:Type} {c:α->Int} (h: ∀a,0<=c a): ∀(l:List α) (i:Nat),sumC c (l.drop i)<=sumC c l
  | [],i=>by rw [List.drop_nil];exact Int.le_refl _
  | a::l,0=>Int.le_refl _
  | a::l,i+1=>by
    have:=sumC_le h l i
    have:=h a
    rw [List.drop_succ_cons]
    simp only [sumC]
    omega
abbrev Nx:=Nat×List (Int×Int)
def eX (x:Nx):E:= .fs x.1 (x.2.map orow)
def mkOp (k:Int) (_:Int×Int):Int×Int:=(k,k+1)
def cOp (_:Int×Int):Int:=2
def mkX (k:Int) (x:Nx):Nx:=(x.1,mkL mkOp cOp k x.2)
def cX (x:Nx):Int:=sumC cOp x.2
theorem cOp_sum: ∀l:List (Int×Int),sumC cOp l=2 * l.length
  | []=>rfl
  | a::l=>by simp only [sumC,cOp_sum l,cOp,List.length_cons];omega
theorem cX_len (x:Nx):cX x=2 * x.2.length:=cOp_sum _
theorem cX_nonneg (x:Nx):0<=cX x:=by rw [cX_len];omega
abbrev Nxs:=Nat×List Nx
abbrev xrow (x:Nx):List E:= [eX x]
def eXs (x:Nxs):E:= .fs x.1 (x.2.map xrow)
def mkXs (k:Int) (x:Nxs):Nxs:=(x.1,mkL mkX cX k x.2)
def cXs (x:Nxs):Int:=sumC cX x.2
theorem cXs_nonneg (x:Nxs):0<=cXs x:=sumC_nonneg cX_nonneg _
structure Nf where
  K:Int
  T:Int
  M:Int
  W:Int
  Ex:Nx
  Exs:Nxs
  L:Int
  R:Int
  deriving Inhabited
abbrev nfr (n:Nf):List E:= [E.int n.K,E.int n.T,E.int n.M,E.int n.W,eX n.Ex,eXs n.Exs,E.int n.L,E.int n.R]
def Nf.d (n:Nf):Fd:=⟨n.K,n.T,n.M,n.W,n.Ex.2,n.Exs.2.map Prod.snd,n.L,n.R⟩
def cF (n:Nf):Int:=6+cX n.Ex+cXs n.Exs
theorem cF_nonneg (n:Nf):0<=cF n:=by have:=cX_nonneg n.Ex;have:=cXs_nonneg n.Exs;unfold cF;omega
def mkF (k:Int) (n:Nf):Nf:=⟨k,k+1,k+2,k+3,mkX (k+4) n.Ex,mkXs (k+4+cX n.Ex) n.Exs,k+4+cX n.Ex+cXs n.Exs,k+4+cX n.Ex+cXs n.Exs+1⟩
def eFs (i:Nat) (l:List Nf):E:= .fs i (l.map nfr)
theorem unss_orow (l:List (Int×Int)):unss (l.map orow)=l.map orow:=by
  rw [unss_map,List.map_map]
  rfl
theorem eX_un (x:Nx):(eX x).un= .sl (x.2.map orow):=by rw [eX,E.un,unss_orow]
theorem eXs_un (x:Nxs):(eXs x).un= .sl ((x.2.map Prod.snd).map orr):=by
  rw [eXs,E.un,unss_map,List.map_map,List.map_map]
  congr 1
  refine List.map_congr_left fun r _=>?_
  simp only [Function.comp,List.map_cons,List.map_nil,eX_un]
theorem eFs_un (i:Nat) (l:List Nf):(eFs i l).un= .sl (l.map fun n=>fdr n.d):=by
  rw [eFs,E.un,unss_map,List.map_map]
  congr 1
  refine List.map_congr_left fun r _=>?_
  simp only [Function.comp,List.map_cons,List.map_nil,eX_un,eXs_un,Nf.d]
  rfl
theorem set_flat {α:Type} {k i c:Nat} {xs:List (List α)} {r:List α} (a:α) (hk: ∀e∈xs,e.length=k) (hi:xs[i]?=some r) (hc:c<k):xs.flatten.set (i * k+c) a=(xs.set i (r.set c a)).flatten:=NS.flat_set a hk hi hc
structure VS (k:Nat) (vs:List Value) (xs:List (List E)) (ds:List D) (R:World->Value->List Nat->Prop):Prop where
  hk: ∀e∈xs,e.length=k
  hv:vs.length=xs.flatten.length
  hd:ds=cells vs xs.flatten
  hR:R=Trees vs (xs.flatten.map trk)
theorem VS.len {k:Nat} {vs:List Value} {xs:List (List E)} {ds:List D} {R} (h:VS k vs xs ds R):ds.length=xs.length * k:=by rw [h.hd,cells_len h.hv,flatten_len h.hk]
theorem VS.setk {k:Nat} {xs:List (List E)} {i c:Nat} {r:List E} {a:E} (hk: ∀e∈xs,e.length=k) (hi:xs[i]?=some r): ∀e∈xs.set i (r.set c a),e.length=k:=fun e h=>by
  rcases List.mem_or_eq_of_mem_set h with h | rfl
  · exact hk e h
  · rw [List.length_set];exact hk r (List.mem_of_getElem? hi)
theorem VS.at {k:Nat} {vs:List Value} {xs:List (List E)} {ds:List D} {R} (h:VS k vs xs ds R) {i c:Nat} {r:List E} {e:E} (hi:xs[i]?=some r) (hc:r[c]?=some e):xs.flatten[i * k+c]?=some e/\i * k+c<xs.flatten.length:=by
  have hck:c<k:=by rw [<-h.hk r (List.mem_of_getElem? hi)];exact (List.getElem?_eq_some_iff.1 hc).1
  have:=flatten_get h.hk i r c hi hck
  rw [hc] at this
  exact ⟨this,(List.getElem?_eq_some_iff.1 this).1⟩
theorem VS.st {k:Nat} {vs:List Value} {xs:List (List E)} {ds ds':List D} {R} (h:VS k vs xs ds R) {i c off:Nat} {r:List E} {x x':Value} (hi:xs[i]?=some r) (hc:r[c]?=some (.v x)) (ho:off=i * k+c) (hs:ds'=ds.take off++ [.e (.v x')]++ds.drop (off+1)):
    VS k vs (xs.set i (r.set c (.v x'))) ds' R:=by
  obtain ⟨h1,h2⟩:=h.at hi hc
  have hck:c<k:=by rw [<-h.hk r (List.mem_of_getElem? hi)];exact (List.getElem?_eq_some_iff.1 hc).1
  have hfl:=set_flat (.v x':E) h.hk hi hck
  refine ⟨VS.setk h.hk hi,by rw [<-hfl,List.length_set];exact h.hv,?_,?_⟩
  · rw [<-hfl,hs,<-ho,ho]
    refine List.ext_getElem? fun j=>?_
    have hdl:ds.length=xs.flatten.length:=by rw [h.hd,cells_len h.hv]
    have hset:ds.take (i * k+c)++ [D.e (.v x')]++ds.drop (i * k+c+1)=ds.set (i * k+c) (.e (.v x')):=by
      rw [List.set_eq_take_append_cons_drop,if_pos (by omega)]
      simp
    rw [hset,cells,List.getElem?_zipWith,h.hd,cells]
    by_cases q:j=i * k+c
    · subst q
      rw [List.getElem?_set_self (by rw [List.length_zipWith,h.hv,Nat.min_self];exact h2),List.getElem?_set_self h2,List.getElem?_eq_getElem (by rw [h.hv];exact h2)]
      rfl
    · rw [List.getElem?_set_ne (Ne.symm q),List.getElem?_set_ne (Ne.symm q),List.getElem?_zipWith]
  · rw [h.hR,<-hfl]
    congr 1
    refine List.ext_getElem? fun j=>?_
    rw [List.getElem?_map,List.getElem?_map]
    by_cases q:j=i * k+c
    · subst q
      rw [List.getElem?_set_self h2,h1]
      rfl
    · rw [List.getElem?_set_ne (Ne.symm q)]
theorem VS.ld {k:Nat} {vs:List Value} {xs:List (List E)} {ds:List D} {R} (h:VS k vs xs ds R) {i c:Nat} {r:List E} {e:E} (hi:xs[i]?=some r) (hc:r[c]?=some e) (hs:e.sca=false): ∃v,vs[i * k+c]?=some v/\ds[i * k+c]?=some (.e (.v v)):=by
  obtain ⟨h1,h2⟩:=h.at hi hc
  obtain ⟨v,hv⟩: ∃v,vs[i * k+c]?=some v:=⟨_,List.getElem?_eq_getElem (by rw [h.hv];exact h2)⟩
  refine ⟨v,hv,?_⟩
  rw [h.hd,cells_get hv h1]
  cases e <;>first | rfl | simp [E.sca] at hs
theorem VS.mark {k:Nat} {vs:List Value} {xs:List (List E)} {ds:List D} {R} (h:VS k vs xs ds R) {i c:Nat} {r:List E} {e e':E} {v:Value} {P:Program} {fn:FuncId} {z z':Int} (hi:xs[i]?=some r) (hc:r[c]?=some e) (hs:e.sca=false) (hs':e'.sca=false) (hv:vs[i * k+c]?=some v) (hm:MarkC P fn id e e' z z'):
    ∃R',VS k vs (xs.set i (r.set c e')) ds R'/\ ∀(j f:Nat),CallE P fn [.e (.v v),.e (.v (.int .i64 z))] [(j,.res R)] f {d:=some (.e (.v (.int .i64 z'))),wr:= [(j,.res R')],tc:= [j]} :=by
  obtain ⟨h1,h2⟩:=h.at hi hc
  have hck:c<k:=by rw [<-h.hk r (List.mem_of_getElem? hi)];exact (List.getElem?_eq_some_iff.1 hc).1
  have hfl:=set_flat e' h.hk hi hck
  refine ⟨Trees vs ((xs.set i (r.set c e')).flatten.map trk),⟨VS.setk h.hk hi,by rw [<-hfl,List.length_set];exact h.hv,?_,rfl⟩,fun j f=>?_⟩
  · rw [<-hfl,h.hd]
    refine List.ext_getElem? fun j=>?_
    rw [cells,cells,List.getElem?_zipWith,List.getElem?_zipWith]
    by_cases q:j=i * k+c
    · subst q
      rw [List.getElem?_set_self h2,h1,hv]
      cases e <;>first | (simp [E.sca] at hs;done) | (cases e' <;>first | rfl | (simp [E.sca] at hs';done))
    · rw [List.getElem?_set_ne (Ne.symm q)]
  · rw [h.hR,<-hfl,List.map_set,trk_of hs']
    exact hm.callEs hv (by rw [List.getElem?_map,h1,Option.map_some,trk_of hs]) hs hs'
end Go.Proofs.Ytfplalbognalkaa.Ab
/- Marks in expressions, walked. -/
namespace Go.Proofs.Ytfplalbognalkaa.Ab
open Go
def c154:F:=⟨27, [(.tmp 4)],(.seq (.reg [ZA 4 (.mov (.c (.int 0)))]) (.seq (.seq (.reg [ZA 5 (.mov (.c (.int 0)))]) (.block 0 (.loop (.seq (.seq (.reg [ZA 6 (.mov 5),ZA 7 (.mov 0),ZA 8 (.lenl 7),ZA 9 (.bin .lss 6 8)]) (.cond 9 .skip (.exit 0))) (.seq (.block 1 (.seq (.reg [ZA 12 (.mov 0),ZA 13 (.mov 5),ZA 14 (.mov 1),ZA 15 (.iadr none 2 12 13),ZA 16 (.fadr 0 15),ZN (.store false 1 16 14)]) (.seq (.reg [ZA 17 (.mov 1),ZA 18 (.bin .add 17 (.c (.int 1))),ZA 1 (.mov 18)]) (.seq (.reg [ZA 19 (.mov 0),ZA 20 (.mov 5),ZA 21 (.mov 1),ZA 22 (.iadr none 2 19 20),ZA 23 (.fadr 1 22),ZN (.store false 1 23 21)]) (.reg [ZA 24 (.mov 1),ZA 25 (.bin .add 24 (.c (.int 1))),ZA 1 (.mov 25)]))))) (.reg [ZA 10 (.mov 5),ZA 11 (.bin .add 10 (.c (.int 1))),ZA 5 (.mov 11)])))))) (.seq (.reg [ZA 26 (.mov 1),ZA 4 (.mov 26)]) .ret)))⟩
theorem p154:prepF Try.prog 154=some c154:=by kernel_rfl
def c155:F:=⟨19, [(.tmp 4)],(.seq (.reg [ZA 4 (.mov (.c (.int 0)))]) (.seq (.seq (.reg [ZA 5 (.mov (.c (.int 0)))]) (.block 0 (.loop (.seq (.seq (.reg [ZA 6 (.mov 5),ZA 7 (.mov 0),ZA 8 (.lenl 7),ZA 9 (.bin .lss 6 8)]) (.cond 9 .skip (.exit 0))) (.seq (.block 1 (.reg [ZA 12 (.mov 0),ZA 13 (.mov 5),ZA 14 (.iadr none 1 12 13),ZA 15 (.load false 1 14),ZA 16 (.mov 1),ZA 17 (.call 154 [15,16]),ZA 1 (.mov 17)])) (.reg [ZA 10 (.mov 5),ZA 11 (.bin .add 10 (.c (.int 1))),ZA 5 (.mov 11)])))))) (.seq (.reg [ZA 18 (.mov 1),ZA 4 (.mov 18)]) .ret)))⟩
theorem p155:prepF Try.prog 155=some c155:=by kernel_rfl
set_option maxRecDepth 100000 in
set_option maxHeartbeats 1000000 in
theorem ok154 (l:List (Int×Int)) (es:List (List E)) (he:es=l.map orow) (k:Int) (hk:0<=k) (hk2:k+2 * es.length<=140737488355328):
    Proc Try.prog 154 (fun t=> [.vec (t 0) es.length 2,.int k]) (fun _=> [.vec true 2 (es.flatten.map .e)]) (fun _=> .int (k+2 * es.length)) (fun _=> [.vec true 2 (((mkL mkOp cOp k l).map orow).flatten.map .e)]):=procOf mixed p154 NS.vec_side fun A P hA hP=>(by
  have hl1:es.length=l.length:=by rw [he];simp
  have hes: ∀e∈es,e.length=2:=by
    rw [he]
    intro e h
    obtain ⟨p,_,rfl⟩:=List.mem_map.1 h
    rfl
  obtain ⟨ts,hts⟩: ∃ts,ts=(mkL mkOp cOp k l).map orow:=⟨_,rfl⟩
  have htl:ts.length=es.length:=by rw [hts,hl1,List.length_map,mkL_len]
  have htg: ∀i:Nat,i<es.length->ts[i]?=some [E.int (k+2 * i),E.int (k+2 * i+1)]:=fun i h=>by
    obtain ⟨a,ha⟩: ∃a,l[i]?=some a:=⟨_,List.getElem?_eq_getElem (by omega)⟩
    rw [hts,List.getElem?_map,mkL_get mkOp cOp k l i a ha,cOp_sum,cOp_sum,List.length_drop]
    have:k+2 * (l.length:Int)-2 * ((l.length-i:Nat):Int)=k+2 * i:=by omega
    rw [this]
    rfl
  obtain ⟨kr,hkr⟩: ∃r,r=k+2 * (es.length:Int):=⟨_,rfl⟩
  obtain ⟨n,hn⟩: ∃n,n=es.length:=⟨_,rfl⟩
  obtain ⟨ys0,hys0⟩: ∃ys,ys=es.flatten.map D.e:=⟨_,rfl⟩
  obtain ⟨zs,hzs⟩: ∃zs,zs=ts.flatten.map D.e:=⟨_,rfl⟩
  rw [<-hts,<-hkr,<-hzs,<-hn,<-hys0]
  cbv
  repeat' first | with_reducible rfl | with_reducible refine And.intro ?_ ?_ | ((with_reducible intro hcc);first | (cases hcc;done) | skip) | ((with_reducible first | show goC _ _ _ _ _ _ _ _ | show goOps _ _ _ _ _ | show goD _ _ _ _ _ _);cbv) | ((with_reducible show okWr _ _=_);rfl) | ((with_reducible first | refine hA.fin_pl _ _ _ ?_ | refine hA.len _ _ _ _ _ fun z hz hb=>?_ | refine hA.off _ _ _ _ fun b hb=>?_ | refine hA.plus _ _ _ fun b hb=>?_);cbv) | ((with_reducible first | refine hA.st _ _ _ _ _ ⟨?_,fun ds hds=>?_⟩ | refine hA.sapp _ _ _ ⟨?_,fun sl hsl=>?_⟩);rotate_left;cbv) | (simp only [hA.lits];cbv)
  all_goals try simp only [hA.ar,inR,n_cast,Int.ofNat_eq_natCast,Option.getD_some,Option.getD_none] at *
  all_goals try omega
  refine hA.loopI (fun m s=> ∃(i k1:Int) (xs:List (List E)),0<=i/\m+i=n/\k1=k+2 * i/\xs.length=n/\(∀e∈xs,e.length=2)/\(∀j:Nat,j<i->xs[j]?=ts[j]?)/\
        s=⟨[(5,.int i),(0,.vec 0 n 2),(1,.int k1)], [.vec true 2 (xs.flatten.map .e)]⟩) n _
      (Weak.keep (env':= [(5,.int 0),(0,.vec 0 n 2),(1,.int k)]) ⟨rfl,rfl,rfl,trivial⟩)
      ⟨0,k,es,by omega,by omega,by omega,by omega,hes,fun j hj=>by omega,by rw [hys0]⟩ ?_
  rintro m s K' ⟨i,k1,xs,h0,h1,hk1,h2,h3,h4,rfl⟩ hK
  obtain ⟨ys,hys⟩: ∃ys,ys=xs.flatten.map D.e:=⟨_,rfl⟩
  have hyl:ys.length=xs.length * 2:=by rw [hys,List.length_map,flatten_len h3]
  rw [<-hys]
  by_cases hin:(0:Int)<=i/\i<n
  · have e1:A.lt i (Int.ofNat n)=true:=by rw [hA.lt,Int.ofNat_eq_natCast];exact decide_eq_true (by omega)
    have hK2: ∀(b c:Nat) (ds1 ds2:List D) (env:List (Nat×D)),ds2=ds1.take c++ [.e (E.int (k1+1))]++ds1.drop (c+1)->ds1=ys.take b++ [.e (E.int k1)]++ys.drop (b+1)->b=0+i.toNat * 2->c=0+i.toNat * 2+1->
        subL [(5,.int (i+1)),(0,.vec 0 n 2),(1,.int (k1+1+1))] env->K' ⟨env, [.vec true 2 ds2]⟩:=fun b c ds1 ds2 env q4 q3 q1 q2 q5=>by
      obtain ⟨r,hr⟩: ∃r,xs[i.toNat]?=some r:=⟨_,List.getElem?_eq_getElem (by omega)⟩
      have hrl:=h3 r (List.mem_of_getElem? hr)
      have d1:=NS.cells_set hys h3 hr (c:=0) (by omega) (by omega) q3
      have h3': ∀e∈xs.set i.toNat (r.set 0 (E.int k1)),e.length=2:=VS.setk h3 hr
      have d2:=NS.cells_set d1 h3' (List.getElem?_set_self (by omega)) (c:=1) (by omega) (by omega) q4
      rw [List.set_set] at d2
      have hrow:(r.set 0 (E.int k1)).set 1 (E.int (k1+1))= [E.int k1,E.int (k1+1)]:=by
        match r,hrl with
        | [x,y],_=>rfl
      rw [hrow] at d2
      refine hK _ (m-1) _ (by omega) (Weak.keep q5) ⟨i+1,k1+1+1,xs.set i.toNat [E.int k1,E.int (k1+1)],by omega,by omega,by omega,by rw [List.length_set];exact h2,fun e h=>?_,fun j hj=>?_,by rw [d2]⟩
      · rcases List.mem_or_eq_of_mem_set h with h | rfl
        · exact h3 e h
        · rfl
      · by_cases hji:(j:Int)<i
        · rw [List.getElem?_set_ne (show i.toNat≠j by omega)];exact h4 j hji
        · have:j=i.toNat:=by omega
          subst this
          rw [List.getElem?_set_self (by omega),htg _ (by omega),hk1,show k+2 * i=k+2 * ((i.toNat:Nat):Int) by omega]
    clear hK h4 htg hts he
    cbv
    repeat' first | with_reducible rfl | (simp only [e1];cbv) | with_reducible refine And.intro ?_ ?_ | ((with_reducible intro hcc);first | (cases hcc;done) | skip) | ((with_reducible first | show goC _ _ _ _ _ _ _ _ | show goOps _ _ _ _ _ | show goD _ _ _ _ _ _);cbv) | ((with_reducible show okWr _ _=_);rfl) | ((with_reducible first | refine hA.fin_pl _ _ _ ?_ | refine hA.len _ _ _ _ _ fun z hz hb=>?_ | refine hA.off _ _ _ _ fun b hb=>?_ | refine hA.plus _ _ _ fun b hb=>?_);cbv) | ((with_reducible first | refine hA.st _ _ _ _ _ ⟨?_,fun ds hds=>?_⟩ | refine hA.sapp _ _ _ ⟨?_,fun sl hsl=>?_⟩);rotate_left;cbv) | (simp only [hA.lits];cbv)
    all_goals try simp only [hA.ar,inR,n_cast,Int.ofNat_eq_natCast,Option.getD_some,Option.getD_none] at *
    all_goals first
      | omega
      | exact hK2 _ _ _ _ _ (by assumption) (by assumption) (by omega) (by omega) ⟨rfl,rfl,rfl,trivial⟩
      | exact finv_refl hA
      | (subst_vars;simp only [List.length_append,List.length_take,List.length_drop,List.length_cons,List.length_nil];omega)
      | (trace_state;fail)
  · have e1:A.lt i (Int.ofNat n)=false:=by rw [hA.lt,Int.ofNat_eq_natCast];exact decide_eq_false (by omega)
    have hxe:xs=ts:=by
      refine List.ext_getElem? fun j=>?_
      by_cases hj:(j:Int)<i
      · exact h4 j hj
      · rw [List.getElem?_eq_none (by omega),List.getElem?_eq_none (by omega)]
    have hyz:ys=zs:=by rw [hys,hzs,hxe]
    have hkk:k1=kr:=by omega
    subst hyz hkk
    clear hK h4 htg hts he
    cbv
    repeat' first | with_reducible rfl | (simp only [e1];cbv) | with_reducible refine And.intro ?_ ?_ | ((with_reducible intro hcc);first | (cases hcc;done) | skip) | ((with_reducible first | show goC _ _ _ _ _ _ _ _ | show goOps _ _ _ _ _ | show goD _ _ _ _ _ _);cbv) | ((with_reducible show okWr _ _=_);rfl) | ((with_reducible first | refine hA.fin_pl _ _ _ ?_ | refine hA.len _ _ _ _ _ fun z hz hb=>?_ | refine hA.off _ _ _ _ fun b hb=>?_ | refine hA.plus _ _ _ fun b hb=>?_);cbv) | ((with_reducible first | refine hA.st _ _ _ _ _ ⟨?_,fun ds hds=>?_⟩ | refine hA.sapp _ _ _ ⟨?_,fun sl hsl=>?_⟩);rotate_left;cbv) | (simp only [hA.lits];cbv)
    all_goals try simp only [hA.ar,inR,n_cast,Int.ofNat_eq_natCast,Option.getD_some,Option.getD_none] at *
    all_goals first
      | omega
      | exact finv_refl hA
      | (trace_state;fail))
set_option maxRecDepth 100000 in
theorem ok154z (k:Int) (hk:0<=k) (hk2:k<=140737488355328):Plain Try.prog 154 [.e (.sl []),.int k] (.int k):=okOf mixed p154 fun A P hA hP=>(by
  obtain ⟨es,hes⟩: ∃es:List (List E),es= []:=⟨_,rfl⟩
  have hl:es.length=0:=by rw [hes];rfl
  obtain ⟨i0,hi0⟩: ∃i:Int,i=0:=⟨_,rfl⟩
  obtain ⟨z1,hz1⟩: ∃z:Int,z=es.length:=⟨_,rfl⟩
  rw [<-hes]
  cbv
  repeat' first | with_reducible rfl | with_reducible refine And.intro ?_ ?_ | ((with_reducible intro hcc);first | (cases hcc;done) | skip) | ((with_reducible first | show goC _ _ _ _ _ _ _ _ | show goOps _ _ _ _ _ | show goD _ _ _ _ _ _);cbv) | ((with_reducible show okWr _ _=_);rfl) | ((with_reducible first | refine hA.fin_pl _ _ _ ?_ | refine hA.len _ _ _ _ _ fun z hz hb=>?_ | refine hA.off _ _ _ _ fun b hb=>?_ | refine hA.plus _ _ _ fun b hb=>?_);cbv) | ((with_reducible first | refine hA.st _ _ _ _ _ ⟨?_,fun ds hds=>?_⟩ | refine hA.sapp _ _ _ ⟨?_,fun sl hsl=>?_⟩);rotate_left;cbv) | (simp only [hA.lits];cbv)
  all_goals try simp only [hA.ar,inR,n_cast,Int.ofNat_eq_natCast,Option.getD_some,Option.getD_none] at *
  all_goals try omega
  refine hA.loopI (fun m s=>s=⟨[(5,.int i0),(0,.e (.sl es)),(1,.int k)], []⟩) 0 _
      (Weak.keep (env':= [(5,.int i0),(0,.e (.sl es)),(1,.int k)]) ⟨by rw [hi0];rfl,rfl,rfl,trivial⟩) rfl ?_
  rintro m s K' rfl hK
  have e1:A.lt i0 z1=false:=by rw [hA.lt];exact decide_eq_false (by omega)
  cbv
  repeat' first | with_reducible rfl | (simp only [e1];cbv) | with_reducible refine And.intro ?_ ?_ | ((with_reducible intro hcc);first | (cases hcc;done) | skip) | ((with_reducible first | show goC _ _ _ _ _ _ _ _ | show goOps _ _ _ _ _ | show goD _ _ _ _ _ _);cbv) | ((with_reducible show okWr _ _=_);rfl) | ((with_reducible refine hA.len es _ _ _ _ fun z hz hb=>?_);(have e6:=hz1.trans hz.symm);subst e6;cbv) | ((with_reducible first | refine hA.fin_pl _ _ _ ?_ | refine hA.len _ _ _ _ _ fun z hz hb=>?_ | refine hA.off _ _ _ _ fun b hb=>?_ | refine hA.plus _ _ _ fun b hb=>?_);cbv) | ((with_reducible first | refine hA.st _ _ _ _ _ ⟨?_,fun ds hds=>?_⟩ | refine hA.sapp _ _ _ ⟨?_,fun sl hsl=>?_⟩);rotate_left;cbv) | (simp only [hA.lits];cbv)
  all_goals try simp only [hA.ar,inR,n_cast,Int.ofNat_eq_natCast,Option.getD_some,Option.getD_none] at *
  all_goals first
    | omega
    | (trace_state;fail))
theorem sca_orow (l:List (Int×Int)): ∀e∈(l.map orow).flatten,e.sca=true:=fun e h=>by
  obtain ⟨x,h1,h2⟩:=List.mem_flatten.1 h
  obtain ⟨p,_,rfl⟩:=List.mem_map.1 h1
  simp only [List.mem_cons,List.not_mem_nil,or_false] at h2
  rcases h2 with rfl | rfl <;>rfl
theorem len_orow (l:List (Int×Int)): ∀e∈l.map orow,e.length=2:=fun e h=>by
  obtain ⟨p,_,rfl⟩:=List.mem_map.1 h
  rfl
theorem mark300 (x:Nx) (k:Int) (hk:0<=k) (hk2:k+cX x<=140737488355328):MarkC Try.prog 154 id (eX x) (eX (mkX k x)) k (k+cX x):=by
  rw [cX_len] at hk2 ⊢
  refine markLeaf (k:=2) (sca_orow _) (sca_orow _) (by simp [mkX,mkL_len]) (len_orow _) (NS.okV_int hk (by omega)) (fun h=>?_) (fun _ _=>?_) (len_orow _)
  · have h:x.2= []:=by simpa using h
    rw [h]
    have:=ok154z k hk (by omega)
    simpa using this
  · have:=ok154 x.2 (x.2.map orow) rfl k hk (by simpa using hk2)
    simp only [List.length_map] at this ⊢
    exact this
theorem res_side {n k:Nat} {z z':Int} {xs xs':List E} {vs vs':List Value} {R R':World->Value->List Nat->Prop} :Side (fun t=> [.vec (t 0) n k,.int z]) (fun _=> [.vec true k (cells vs xs),.res R]) (fun _=> .int z') (fun _=> [.vec true k (cells vs' xs'),.res R']):=by
  have e: ∀(vs:List Value) (xs:List E),cells vs xs=(List.zipWith cellE vs xs).map .e:=fun vs xs=>by
    rw [cells,List.map_zipWith]
  rw [e,e]
  exact NS.res_side
set_option maxRecDepth 100000 in
set_option maxHeartbeats 1000000 in
theorem w301 (L:List Nx) (vs:List Value) (hv:vs.length=(L.map xrow).flatten.length) (k:Int) (hk:0<=k) (hk2:k+sumC cX L<=140737488355328) (hlen:L.length<=1048576):
    Proc Try.prog 155 (fun t=> [.vec (t 0) (L.map xrow).length 1,.int k]) (fun _=> [.vec true 1 (cells vs (L.map xrow).flatten),.res (Trees vs ((L.map xrow).flatten.map trk))]) (fun _=> .int (k+sumC cX L))
      (fun _=> [.vec true 1 (cells vs ((mkL mkX cX k L).map xrow).flatten),.res (Trees vs (((mkL mkX cX k L).map xrow).flatten.map trk))]):=procOf mixed p155 res_side fun A P hA hP=>(by
  obtain ⟨kr,hkr⟩: ∃r,r=k+sumC cX L:=⟨_,rfl⟩
  obtain ⟨xs0,hxs0⟩: ∃xs,xs=L.map xrow:=⟨_,rfl⟩
  obtain ⟨n,hn⟩: ∃n,n=L.length:=⟨_,rfl⟩
  have hnx:xs0.length=n:=by rw [hxs0,hn,List.length_map]
  rw [<-hxs0] at hv ⊢
  rw [hnx]
  obtain ⟨ts,hts⟩: ∃ts,ts=(mkL mkX cX k L).map xrow:=⟨_,rfl⟩
  have htl:ts.length=n:=by rw [hts,List.length_map,mkL_len,hn]
  obtain ⟨ds0,hds0⟩: ∃ds,ds=cells vs xs0.flatten:=⟨_,rfl⟩
  obtain ⟨R0,hR0⟩: ∃R,R=Trees vs (xs0.flatten.map trk):=⟨_,rfl⟩
  obtain ⟨dsF,hdsF⟩: ∃ds,ds=cells vs ts.flatten:=⟨_,rfl⟩
  obtain ⟨RF,hRF⟩: ∃R,R=Trees vs (ts.flatten.map trk):=⟨_,rfl⟩
  have V0:VS 1 vs xs0 ds0 R0:=⟨fun e h=>by rw [hxs0] at h;obtain ⟨p,_,rfl⟩:=List.mem_map.1 h;rfl,hv,hds0,hR0⟩
  rw [<-hkr,<-hds0,<-hR0,<-hts,<-hdsF,<-hRF]
  cbv
  repeat' first | with_reducible rfl | with_reducible refine And.intro ?_ ?_ | ((with_reducible intro hcc);first | (cases hcc;done) | skip) | ((with_reducible first | show goC _ _ _ _ _ _ _ _ | show goOps _ _ _ _ _ | show goD _ _ _ _ _ _);cbv) | ((with_reducible show okWr _ _=_);rfl) | ((with_reducible first | refine hA.fin_pl _ _ _ ?_ | refine hA.len _ _ _ _ _ fun z hz hb=>?_ | refine hA.off _ _ _ _ fun b hb=>?_);cbv) | ((with_reducible first | refine hA.sapp _ _ _ ⟨?_,fun sl hsl=>?_⟩);rotate_left;cbv) | (simp only [hA.lits];cbv)
  all_goals try simp only [hA.ar,inR,n_cast,Int.ofNat_eq_natCast,Option.getD_some,Option.getD_none] at *
  all_goals try omega
  refine hA.loopI (fun m s=> ∃(i k1:Int) (xs:List (List E)) (ds:List D) (R:World->Value->List Nat->Prop),0<=i/\m+i=n/\k1=k+sumC cX L-sumC cX (L.drop i.toNat)/\VS 1 vs xs ds R/\xs.length=n/\(∀j:Nat,j<i->xs[j]?=ts[j]?)/\(∀j:Nat,i<=j->xs[j]?=xs0[j]?)/\
        s=⟨[(5,.int i),(0,.vec 0 n 1),(1,.int k1)], [.vec true 1 ds,.res R]⟩) n _
      (Weak.keep (env':= [(5,.int 0),(0,.vec 0 n 1),(1,.int k)]) ⟨rfl,rfl,rfl,trivial⟩)
      ⟨0,k,xs0,ds0,R0,by omega,by omega,(by rw [show (0:Int).toNat=0 from rfl,List.drop_zero];omega),V0,hnx,(fun j hj=>by omega),(fun j _=>rfl),rfl⟩ ?_
  rintro m s K' ⟨i,k1,xs,ds,R,h0,h1,hk1,hV,h2,h3,h4,rfl⟩ hK
  have hdl:ds.length=xs.length * 1:=hV.len
  by_cases hin:(0:Int)<=i/\i<n
  · have e1:A.lt i (Int.ofNat n)=true:=by rw [hA.lt,Int.ofNat_eq_natCast];exact decide_eq_true (by omega)
    obtain ⟨r,hr⟩: ∃r,L[i.toNat]?=some r:=⟨_,List.getElem?_eq_getElem (by omega)⟩
    have hdr:=sumC_drop (c:=cX) hr
    have hc0:=sumC_nonneg cX_nonneg (L.drop (i.toNat+1))
    have hcd:sumC cX (L.drop i.toNat)<=sumC cX L:=sumC_le cX_nonneg L i.toNat
    have hxi:xs[i.toNat]?=some (xrow r):=by rw [h4 i.toNat (by omega),hxs0,List.getElem?_map,hr];rfl
    obtain ⟨v,hvi,hdi⟩:=hV.ld hxi (c:=0) rfl rfl
    have ld: ∀ {b:Nat} {c:D},b=0+i.toNat * 1->c=ds.getD b default->c= .e (.v v):=fun {b c} q1 q2=>by
      rw [q2,show b=i.toNat * 1+0 by omega,List.getD,hdi]
      rfl
    have hcx:=cX_nonneg r
    have hmk:=mark300 r k1 (by omega) (by omega)
    obtain ⟨k2,hk2'⟩: ∃k,k=k1+cX r:=⟨_,rfl⟩
    rw [<-hk2'] at hmk
    obtain ⟨R2,hV2,hcal0⟩:=hV.mark hxi (c:=0) rfl rfl rfl hvi hmk
    have hcal:=hcal0 1
    have hK2: ∀(env:List (Nat×D)),subL [(5,.int (i+1)),(0,.vec 0 n 1),(1,.int k2)] env->K' ⟨env, [.vec true 1 ds,.res R2]⟩:=fun env q5=>by
      refine hK _ (m-1) _ (by omega) (Weak.keep q5) ⟨i+1,k2,_,ds,R2,by omega,by omega,?_,hV2,?_,fun j hj=>?_,fun j hj=>?_,rfl⟩
      · rw [show (i+1).toNat=i.toNat+1 by omega];omega
      · rw [List.length_set];exact h2
      · by_cases hji:(j:Int)<i
        · rw [List.getElem?_set_ne (show i.toNat≠j by omega)];exact h3 j hji
        · have:j=i.toNat:=by omega
          subst this
          rw [List.getElem?_set_self (by omega),hts,List.getElem?_map,mkL_get _ _ _ _ _ _ hr,hk1]
          rfl
      · rw [List.getElem?_set_ne (show i.toNat≠j by omega)];exact h4 j (by omega)
    clear hK h3 h4 hmk hk1 hdr hk2' hxi hV hV2 hcal0 V0 hts
    cbv
    repeat' first | with_reducible rfl | (simp only [e1];cbv) | with_reducible refine And.intro ?_ ?_ | ((with_reducible intro hcc);first | (cases hcc;done) | skip) | ((with_reducible first | show goC _ _ _ _ _ _ _ _ | show goOps _ _ _ _ _ | show goD _ _ _ _ _ _);cbv) | ((with_reducible show okWr _ _=_);rfl) | ((with_reducible show A.call _ _ _ _ _ 154 _ _ _);refine callK_res hA hP rfl ?_ hcal;cbv) | ((with_reducible refine hA.ld1 _ _ _ ⟨?_,fun c hc=>?_⟩);rotate_left;(have e9:=ld hb hc);subst e9;cbv) | ((with_reducible first | refine hA.fin_pl _ _ _ ?_ | refine hA.len _ _ _ _ _ fun z hz hb=>?_ | refine hA.off _ _ _ _ fun b hb=>?_);cbv) | ((with_reducible first | refine hA.sapp _ _ _ ⟨?_,fun sl hsl=>?_⟩);rotate_left;cbv) | (simp only [hA.lits];cbv)
    all_goals try simp only [hA.ar,inR,n_cast,Int.ofNat_eq_natCast,Option.getD_some,Option.getD_none] at *
    all_goals first
      | omega
      | exact hK2 _ ⟨rfl,rfl,rfl,trivial⟩
      | exact finv_refl hA
      | (trace_state;fail)
  · have e1:A.lt i (Int.ofNat n)=false:=by rw [hA.lt,Int.ofNat_eq_natCast];exact decide_eq_false (by omega)
    have hte:xs=ts:=by
      refine List.ext_getElem? fun j=>?_
      by_cases hj:(j:Int)<i
      · exact h3 j hj
      · rw [List.getElem?_eq_none (by omega),List.getElem?_eq_none (by omega)]
    have hRR:R=RF:=by rw [hV.hR,hRF,hte]
    have hdd:ds=dsF:=by rw [hV.hd,hdsF,hte]
    have hkk:k1=kr:=by
      rw [List.drop_eq_nil_of_le (by omega)] at hk1
      simp only [sumC] at hk1
      omega
    clear hK h3 h4 hV V0 hR0 hds0 hdsF hRF
    subst hRR hkk hdd
    cbv
    repeat' first | with_reducible rfl | (simp only [e1];cbv) | with_reducible refine And.intro ?_ ?_ | ((with_reducible intro hcc);first | (cases hcc;done) | skip) | ((with_reducible first | show goC _ _ _ _ _ _ _ _ | show goOps _ _ _ _ _ | show goD _ _ _ _ _ _);cbv) | ((with_reducible show okWr _ _=_);rfl) | ((with_reducible first | refine hA.fin_pl _ _ _ ?_ | refine hA.len _ _ _ _ _ fun z hz hb=>?_ | refine hA.off _ _ _ _ fun b hb=>?_);cbv) | ((with_reducible first | refine hA.sapp _ _ _ ⟨?_,fun sl hsl=>?_⟩);rotate_left;cbv) | (simp only [hA.lits];cbv)
    all_goals try simp only [hA.ar,inR,n_cast,Int.ofNat_eq_natCast,Option.getD_some,Option.getD_none] at *
    all_goals first
      | omega
      | exact finv_refl hA
      | (trace_state;fail))
set_option maxRecDepth 100000 in
theorem ok155z (k:Int) (hk:0<=k) (hk2:k<=140737488355328):Plain Try.prog 155 [.e (.sl []),.int k] (.int k):=okOf mixed p155 fun A P hA hP=>(by
  obtain ⟨es,hes⟩: ∃es:List (List E),es= []:=⟨_,rfl⟩
  have hl:es.length=0:=by rw [hes];rfl
  obtain ⟨i0,hi0⟩: ∃i:Int,i=0:=⟨_,rfl⟩
  obtain ⟨z1,hz1⟩: ∃z:Int,z=es.length:=⟨_,rfl⟩
  rw [<-hes]
  cbv
  repeat' first | with_reducible rfl | with_reducible refine And.intro ?_ ?_ | ((with_reducible intro hcc);first | (cases hcc;done) | skip) | ((with_reducible first | show goC _ _ _ _ _ _ _ _ | show goOps _ _ _ _ _ | show goD _ _ _ _ _ _);cbv) | ((with_reducible show okWr _ _=_);rfl) | ((with_reducible first | refine hA.fin_pl _ _ _ ?_ | refine hA.len _ _ _ _ _ fun z hz hb=>?_ | refine hA.off _ _ _ _ fun b hb=>?_);cbv) | ((with_reducible first | refine hA.sapp _ _ _ ⟨?_,fun sl hsl=>?_⟩);rotate_left;cbv) | (simp only [hA.lits];cbv)
  all_goals try simp only [hA.ar,inR,n_cast,Int.ofNat_eq_natCast,Option.getD_some,Option.getD_none] at *
  all_goals try omega
  refine hA.loopI (fun m s=>s=⟨[(5,.int i0),(0,.e (.sl es)),(1,.int k)], []⟩) 0 _
      (Weak.keep (env':= [(5,.int i0),(0,.e (.sl es)),(1,.int k)]) ⟨by rw [hi0];rfl,rfl,rfl,trivial⟩) rfl ?_
  rintro m s K' rfl hK
  have e1:A.lt i0 z1=false:=by rw [hA.lt];exact decide_eq_false (by omega)
  cbv
  repeat' first | with_reducible rfl | (simp only [e1];cbv) | with_reducible refine And.intro ?_ ?_ | ((with_reducible intro hcc);first | (cases hcc;done) | skip) | ((with_reducible first | show goC _ _ _ _ _ _ _ _ | show goOps _ _ _ _ _ | show goD _ _ _ _ _ _);cbv) | ((with_reducible show okWr _ _=_);rfl) | ((with_reducible refine hA.len es _ _ _ _ fun z hz hb=>?_);(have e6:=hz1.trans hz.symm);subst e6;cbv) | ((with_reducible first | refine hA.fin_pl _ _ _ ?_ | refine hA.len _ _ _ _ _ fun z hz hb=>?_ | refine hA.off _ _ _ _ fun b hb=>?_);cbv) | ((with_reducible first | refine hA.sapp _ _ _ ⟨?_,fun sl hsl=>?_⟩);rotate_left;cbv) | (simp only [hA.lits];cbv)
  all_goals try simp only [hA.ar,inR,n_cast,Int.ofNat_eq_natCast,Option.getD_some,Option.getD_none] at *
  all_goals first
    | omega
    | (trace_state;fail))
theorem sca_alike {α:Type} {f:α->List E} {k:Nat} (hf: ∀a,(f a).length=k) (hs: ∀a b (j:Nat),((f a)[j]?).map E.sca=((f b)[j]?).map E.sca): ∀(l m:List α),m.length=l.length-> ∀j:Nat,((m.map f).flatten[j]?).map E.sca=((l.map f).flatten[j]?).map E.sca
  | [], [],_,j=>rfl
  | a::l,b::m,h,j=>by
    rw [List.map_cons,List.map_cons,List.flatten_cons,List.flatten_cons]
    by_cases hj:j<k
    · rw [List.getElem?_append_left (by rw [hf];exact hj),List.getElem?_append_left (by rw [hf];exact hj)]
      exact hs b a j
    · rw [List.getElem?_append_right (by rw [hf];omega),List.getElem?_append_right (by rw [hf];omega),hf,hf]
      exact sca_alike hf hs l m (by simpa using h) (j-k)
  | [],_::_,h,_=>by simp at h
  | _::_, [],h,_=>by simp at h
theorem mark301 (x:Nxs) (k:Int) (hk:0<=k) (hk2:k+cXs x<=140737488355328) (hlen:x.2.length<=1048576):MarkC Try.prog 155 id (eXs x) (eXs (mkXs k x)) k (k+cXs x):=by
  have h0:=cXs_nonneg x
  have hk1: ∀L:List Nx,∀e∈L.map xrow,e.length=1:=fun L e h=>by
    obtain ⟨p,_,rfl⟩:=List.mem_map.1 h
    rfl
  refine markOuter (k:=1) (sca_alike (k:=1) (fun _=>rfl) (fun a b j=>?_) x.2 _ (mkL_len _ _ _ _)) (by simp [mkXs,mkL_len]) (hk1 _) (NS.okV_int hk (by omega)) (fun h=>?_) (fun _ _ vs hvs=>?_) (hk1 _)
  · match j with
    | 0=>rfl
    | j+1=>rfl
  · have h:x.2= []:=by simpa using h
    have:=ok155z k hk (by omega)
    have e:cXs x=0:=by rw [cXs,h];rfl
    rw [e]
    simpa using this
  · exact w301 x.2 vs hvs k hk hk2 hlen
end Go.Proofs.Ytfplalbognalkaa.Ab
/- Marks in nodes of flat plans, walked. -/
namespace Go.Proofs.Ytfplalbognalkaa.Ab
open Go
def c102:F:=⟨69, [(.tmp 4)],(.seq (.reg [ZA 4 (.mov (.c (.int 0)))]) (.seq (.seq (.reg [ZA 5 (.mov (.c (.int 0)))]) (.block 0 (.loop (.seq (.seq (.reg [ZA 6 (.mov 5),ZA 7 (.mov 0),ZA 8 (.lenl 7),ZA 9 (.bin .lss 6 8)]) (.cond 9 .skip (.exit 0))) (.seq (.block 1 (.seq (.reg [ZA 12 (.mov 0),ZA 13 (.mov 5),ZA 14 (.mov 1),ZA 15 (.iadr none 8 12 13),ZA 16 (.fadr 0 15),ZN (.store false 1 16 14)]) (.seq (.reg [ZA 17 (.mov 1),ZA 18 (.bin .add 17 (.c (.int 1))),ZA 1 (.mov 18)]) (.seq (.reg [ZA 19 (.mov 0),ZA 20 (.mov 5),ZA 21 (.mov 1),ZA 22 (.iadr none 8 19 20),ZA 23 (.fadr 1 22),ZN (.store false 1 23 21)]) (.seq (.reg [ZA 24 (.mov 1),ZA 25 (.bin .add 24 (.c (.int 1))),ZA 1 (.mov 25)]) (.seq (.reg [ZA 26 (.mov 0),ZA 27 (.mov 5),ZA 28 (.mov 1),ZA 29 (.iadr none 8 26 27),ZA 30 (.fadr 2 29),ZN (.store false 1 30 28)]) (.seq (.reg [ZA 31 (.mov 1),ZA 32 (.bin .add 31 (.c (.int 1))),ZA 1 (.mov 32)]) (.seq (.reg [ZA 33 (.mov 0),ZA 34 (.mov 5),ZA 35 (.mov 1),ZA 36 (.iadr none 8 33 34),ZA 37 (.fadr 3 36),ZN (.store false 1 37 35)]) (.seq (.reg [ZA 38 (.mov 1),ZA 39 (.bin .add 38 (.c (.int 1))),ZA 1 (.mov 39)]) (.seq (.reg [ZA 40 (.mov 0),ZA 41 (.mov 5),ZA 42 (.iadr none 8 40 41),ZA 43 (.fadr 4 42),ZA 44 (.load false 1 43),ZA 45 (.mov 1),ZA 46 (.call 154 [44,45]),ZA 1 (.mov 46)]) (.seq (.reg [ZA 47 (.mov 0),ZA 48 (.mov 5),ZA 49 (.iadr none 8 47 48),ZA 50 (.fadr 5 49),ZA 51 (.load false 1 50),ZA 52 (.mov 1),ZA 53 (.call 155 [51,52]),ZA 1 (.mov 53)]) (.seq (.reg [ZA 54 (.mov 0),ZA 55 (.mov 5),ZA 56 (.mov 1),ZA 57 (.iadr none 8 54 55),ZA 58 (.fadr 6 57),ZN (.store false 1 58 56)]) (.seq (.reg [ZA 59 (.mov 1),ZA 60 (.bin .add 59 (.c (.int 1))),ZA 1 (.mov 60)]) (.seq (.reg [ZA 61 (.mov 0),ZA 62 (.mov 5),ZA 63 (.mov 1),ZA 64 (.iadr none 8 61 62),ZA 65 (.fadr 7 64),ZN (.store false 1 65 63)]) (.reg [ZA 66 (.mov 1),ZA 67 (.bin .add 66 (.c (.int 1))),ZA 1 (.mov 67)]))))))))))))))) (.reg [ZA 10 (.mov 5),ZA 11 (.bin .add 10 (.c (.int 1))),ZA 5 (.mov 11)])))))) (.seq (.reg [ZA 68 (.mov 1),ZA 4 (.mov 68)]) .ret)))⟩
theorem p102:prepF Try.prog 102=some c102:=by kernel_rfl
def c44:F:=⟨10, [(.tmp 4)],(.seq (.reg [ZA 2 (.box 0),ZA 4 (.mov (.c (.int 0)))]) (.seq (.reg [ZA 5 (.fadr 0 2),ZA 6 (.load false 1 5),ZA 7 (.mov 1),ZA 8 (.call 102 [6,7]),ZA 1 (.mov 8)]) (.seq (.reg [ZA 9 (.mov 1),ZA 4 (.mov 9)]) .ret)))⟩
theorem p44:prepF Try.prog 44=some c44:=by kernel_rfl
theorem VS.same {k:Nat} {vs:List Value} {xs ys:List (List E)} {ds ds':List D} {R R' R2} (a:VS k vs xs ds R) (b:VS k vs xs ds' R') (c:VS k vs ys ds' R2):VS k vs ys ds R2:=⟨c.hk,c.hv,a.hd.trans (b.hd.symm.trans c.hd),c.hR⟩
theorem set_get {α:Type} {xs:List α} {i:Nat} {r r':α} (h:xs[i]?=some r):(xs.set i r')[i]?=some r':=List.getElem?_set_self (List.getElem?_eq_some_iff.1 h).1
set_option maxRecDepth 100000 in
set_option maxHeartbeats 4000000 in
theorem w263 (L:List Nf) (vs:List Value) (hv:vs.length=(L.map nfr).flatten.length) (k:Int) (hk:0<=k) (hk2:k+sumC cF L<=140737488355328) (hlen:L.length<=1048576) (hlx: ∀n∈L,n.Exs.2.length<=1048576):
    Proc Try.prog 102 (fun t=> [.vec (t 0) (L.map nfr).length 8,.int k]) (fun _=> [.vec true 8 (cells vs (L.map nfr).flatten),.res (Trees vs ((L.map nfr).flatten.map trk))]) (fun _=> .int (k+sumC cF L))
      (fun _=> [.vec true 8 (cells vs ((mkL mkF cF k L).map nfr).flatten),.res (Trees vs (((mkL mkF cF k L).map nfr).flatten.map trk))]):=procOf mixed p102 res_side fun A P hA hP=>(by
  obtain ⟨kr,hkr⟩: ∃r,r=k+sumC cF L:=⟨_,rfl⟩
  obtain ⟨xs0,hxs0⟩: ∃xs,xs=L.map nfr:=⟨_,rfl⟩
  obtain ⟨n,hn⟩: ∃n,n=L.length:=⟨_,rfl⟩
  have hnx:xs0.length=n:=by rw [hxs0,hn,List.length_map]
  rw [<-hxs0] at hv ⊢
  rw [hnx]
  obtain ⟨ts,hts⟩: ∃ts,ts=(mkL mkF cF k L).map nfr:=⟨_,rfl⟩
  have htl:ts.length=n:=by rw [hts,List.length_map,mkL_len,hn]
  obtain ⟨ds0,hds0⟩: ∃ds,ds=cells vs xs0.flatten:=⟨_,rfl⟩
  obtain ⟨R0,hR0⟩: ∃R,R=Trees vs (xs0.flatten.map trk):=⟨_,rfl⟩
  obtain ⟨dsF,hdsF⟩: ∃ds,ds=cells vs ts.flatten:=⟨_,rfl⟩
  obtain ⟨RF,hRF⟩: ∃R,R=Trees vs (ts.flatten.map trk):=⟨_,rfl⟩
  have V0:VS 8 vs xs0 ds0 R0:=⟨fun e h=>by rw [hxs0] at h;obtain ⟨p,_,rfl⟩:=List.mem_map.1 h;rfl,hv,hds0,hR0⟩
  rw [<-hkr,<-hds0,<-hR0,<-hts,<-hdsF,<-hRF]
  cbv
  repeat' first | with_reducible rfl | with_reducible refine And.intro ?_ ?_ | ((with_reducible intro hcc);first | (cases hcc;done) | skip) | ((with_reducible first | show goC _ _ _ _ _ _ _ _ | show goOps _ _ _ _ _ | show goD _ _ _ _ _ _);cbv) | ((with_reducible show okWr _ _=_);rfl) | ((with_reducible first | refine hA.fin_pl _ _ _ ?_ | refine hA.len _ _ _ _ _ fun z hz hb=>?_ | refine hA.off _ _ _ _ fun b hb=>?_ | refine hA.plus _ _ _ fun b hb=>?_);cbv) | ((with_reducible first | refine hA.st _ _ _ _ _ ⟨?_,fun ds hds=>?_⟩ | refine hA.sapp _ _ _ ⟨?_,fun sl hsl=>?_⟩);rotate_left;cbv) | (simp only [hA.lits];cbv)
  all_goals try simp only [hA.ar,inR,n_cast,Int.ofNat_eq_natCast,Option.getD_some,Option.getD_none] at *
  all_goals try omega
  refine hA.loopI (fun m s=> ∃(i k1:Int) (xs:List (List E)) (ds:List D) (R:World->Value->List Nat->Prop),0<=i/\m+i=n/\k1=k+sumC cF L-sumC cF (L.drop i.toNat)/\VS 8 vs xs ds R/\xs.length=n/\(∀j:Nat,j<i->xs[j]?=ts[j]?)/\(∀j:Nat,i<=j->xs[j]?=xs0[j]?)/\
        s=⟨[(5,.int i),(0,.vec 0 n 8),(1,.int k1)], [.vec true 8 ds,.res R]⟩) n _
      (Weak.keep (env':= [(5,.int 0),(0,.vec 0 n 8),(1,.int k)]) ⟨rfl,rfl,rfl,trivial⟩)
      ⟨0,k,xs0,ds0,R0,by omega,by omega,(by rw [show (0:Int).toNat=0 from rfl,List.drop_zero];omega),V0,hnx,(fun j hj=>by omega),(fun j _=>rfl),rfl⟩ ?_
  rintro m s K' ⟨i,k1,xs,ds,R,h0,h1,hk1,hV,h2,h3,h4,rfl⟩ hK
  have hdl:ds.length=xs.length * 8:=hV.len
  by_cases hin:(0:Int)<=i/\i<n
  · have e1:A.lt i (Int.ofNat n)=true:=by rw [hA.lt,Int.ofNat_eq_natCast];exact decide_eq_true (by omega)
    obtain ⟨d,hr⟩: ∃r,L[i.toNat]?=some r:=⟨_,List.getElem?_eq_getElem (by omega)⟩
    have hdr:=sumC_drop (c:=cF) hr
    have hc0:=sumC_nonneg cF_nonneg (L.drop (i.toNat+1))
    have hcd:sumC cF (L.drop i.toNat)<=sumC cF L:=sumC_le cF_nonneg L i.toNat
    have hxi:xs[i.toNat]?=some (nfr d):=by rw [h4 i.toNat (by omega),hxs0,List.getElem?_map,hr];rfl
    have hcx:=cX_nonneg d.Ex
    have hcxs:=cXs_nonneg d.Exs
    have hcf:cF d=6+cX d.Ex+cXs d.Exs:=rfl
    have hlx':=hlx d (List.mem_of_getElem? hr)
    obtain ⟨ka,hka⟩: ∃k,k=A.add k1 1:=⟨_,rfl⟩
    obtain ⟨kb,hkb⟩: ∃k,k=A.add ka 1:=⟨_,rfl⟩
    obtain ⟨kc,hkc⟩: ∃k,k=A.add kb 1:=⟨_,rfl⟩
    obtain ⟨kd,hkd⟩: ∃k,k=A.add kc 1:=⟨_,rfl⟩
    have hka':ka=k1+1:=by rw [hka,hA.add]
    have hkb':kb=k1+2:=by rw [hkb,hA.add];omega
    have hkc':kc=k1+3:=by rw [hkc,hA.add];omega
    have hkd':kd=k1+4:=by rw [hkd,hA.add];omega
    obtain ⟨ke,hke⟩: ∃k,k=kd+cX d.Ex:=⟨_,rfl⟩
    obtain ⟨kf,hkf⟩: ∃k,k=ke+cXs d.Exs:=⟨_,rfl⟩
    obtain ⟨kg,hkg⟩: ∃k,k=A.add kf 1:=⟨_,rfl⟩
    have hkg':kg=kf+1:=by rw [hkg,hA.add]
    have m4:=mark300 d.Ex kd (by omega) (by omega)
    have m5:=mark301 d.Exs ke (by omega) (by omega) hlx'
    rw [<-hke] at m4
    rw [<-hkf] at m5
    obtain ⟨v4,hv4,hd4⟩:=hV.ld hxi (c:=4) rfl rfl
    obtain ⟨v5,hv5,hd5⟩:=hV.ld hxi (c:=5) rfl rfl
    have V1:=hV.st (c:=0) (x':= .int .i64 k1) hxi rfl rfl rfl
    have V2:=V1.st (c:=1) (x':= .int .i64 ka) (set_get hxi) rfl rfl rfl
    have V3:=V2.st (c:=2) (x':= .int .i64 kb) (set_get (set_get hxi)) rfl rfl rfl
    have V4:=V3.st (c:=3) (x':= .int .i64 kc) (set_get (set_get (set_get hxi))) rfl rfl rfl
    obtain ⟨R2,V5,hcal4⟩:=V4.mark (c:=4) (e:=eX d.Ex) (e':=eX (mkX kd d.Ex)) (set_get (set_get (set_get (set_get hxi)))) rfl rfl rfl hv4 m4
    obtain ⟨R3,V6,hcal5⟩:=V5.mark (c:=5) (e:=eXs d.Exs) (e':=eXs (mkXs ke d.Exs)) (set_get (set_get (set_get (set_get (set_get hxi))))) rfl rfl rfl hv5 m5
    have hcal4:=hcal4 1
    have hcal5:=hcal5 1
    have ch: ∀ {d1 d2 d3 d4:List D} {b1 b2 b3 b4:Nat},d4=d3.take b4++ [.e (E.int kc)]++d3.drop (b4+1)->d3=d2.take b3++ [.e (E.int kb)]++d2.drop (b3+1)->d2=d1.take b2++ [.e (E.int ka)]++d1.drop (b2+1)->d1=ds.take b1++ [.e (E.int k1)]++ds.drop (b1+1)->
        b1=i.toNat * 8+0->b2=i.toNat * 8+1->b3=i.toNat * 8+2->b4=i.toNat * 8+3->VS 8 vs (((xs.set i.toNat _).set i.toNat _).set i.toNat _ |>.set i.toNat _) d4 R:=fun {d1 d2 d3 d4 b1 b2 b3 b4} q4 q3 q2 q1 p1 p2 p3 p4=>
      (((hV.st (c:=0) (x':= .int .i64 k1) hxi rfl p1 q1).st (c:=1) (x':= .int .i64 ka) (set_get hxi) rfl p2 q2).st (c:=2) (x':= .int .i64 kb) (set_get (set_get hxi)) rfl p3 q3).st (c:=3) (x':= .int .i64 kc) (set_get (set_get (set_get hxi))) rfl p4 q4
    have ld4: ∀ {d1 d2 d3 d4:List D} {b1 b2 b3 b4 b:Nat} {c:D},d4=d3.take b4++ [.e (E.int kc)]++d3.drop (b4+1)->d3=d2.take b3++ [.e (E.int kb)]++d2.drop (b3+1)->d2=d1.take b2++ [.e (E.int ka)]++d1.drop (b2+1)->d1=ds.take b1++ [.e (E.int k1)]++ds.drop (b1+1)->
        b1=i.toNat * 8+0->b2=i.toNat * 8+1->b3=i.toNat * 8+2->b4=i.toNat * 8+3->b=i.toNat * 8+4->c=d4.getD b default->c= .e (.v v4):=fun {d1 d2 d3 d4 b1 b2 b3 b4 b c} q4 q3 q2 q1 p1 p2 p3 p4 p5 q5=>by
      obtain ⟨v,g1,g2⟩:=(ch q4 q3 q2 q1 p1 p2 p3 p4).ld (c:=4) (e:=eX d.Ex) (set_get (set_get (set_get (set_get hxi)))) rfl rfl
      rw [hv4] at g1
      cases g1
      rw [q5,p5,List.getD,g2]
      rfl
    have ld5: ∀ {d1 d2 d3 d4:List D} {b1 b2 b3 b4 b:Nat} {c:D},d4=d3.take b4++ [.e (E.int kc)]++d3.drop (b4+1)->d3=d2.take b3++ [.e (E.int kb)]++d2.drop (b3+1)->d2=d1.take b2++ [.e (E.int ka)]++d1.drop (b2+1)->d1=ds.take b1++ [.e (E.int k1)]++ds.drop (b1+1)->
        b1=i.toNat * 8+0->b2=i.toNat * 8+1->b3=i.toNat * 8+2->b4=i.toNat * 8+3->b=i.toNat * 8+5->c=d4.getD b default->c= .e (.v v5):=fun {d1 d2 d3 d4 b1 b2 b3 b4 b c} q4 q3 q2 q1 p1 p2 p3 p4 p5 q5=>by
      obtain ⟨v,g1,g2⟩:=(ch q4 q3 q2 q1 p1 p2 p3 p4).ld (c:=5) (e:=eXs d.Exs) (set_get (set_get (set_get (set_get hxi)))) rfl rfl
      rw [hv5] at g1
      cases g1
      rw [q5,p5,List.getD,g2]
      rfl
    have hK2: ∀ {d1 d2 d3 d4 d5 d6:List D} {b1 b2 b3 b4 b5 b6:Nat} (env:List (Nat×D)),d6=d5.take b6++ [.e (E.int kg)]++d5.drop (b6+1)->d5=d4.take b5++ [.e (E.int kf)]++d4.drop (b5+1)->d4=d3.take b4++ [.e (E.int kc)]++d3.drop (b4+1)->d3=d2.take b3++ [.e (E.int kb)]++d2.drop (b3+1)->d2=d1.take b2++ [.e (E.int ka)]++d1.drop (b2+1)->d1=ds.take b1++ [.e (E.int k1)]++ds.drop (b1+1)->
        b1=i.toNat * 8+0->b2=i.toNat * 8+1->b3=i.toNat * 8+2->b4=i.toNat * 8+3->b5=i.toNat * 8+6->b6=i.toNat * 8+7->
        subL [(5,.int (i+1)),(0,.vec 0 n 8),(1,.int (kg+1))] env->K' ⟨env, [.vec true 8 d6,.res R3]⟩:=fun {d1 d2 d3 d4 d5 d6 b1 b2 b3 b4 b5 b6} env q6 q5 q4 q3 q2 q1 p1 p2 p3 p4 p5 p6 q=>by
      have W4:=ch q4 q3 q2 q1 p1 p2 p3 p4
      have W6:=VS.same (W4.same V4 V5) V5 V6
      have W7:=W6.st (c:=6) (x':= .int .i64 kf) (set_get (set_get (set_get (set_get (set_get (set_get hxi)))))) rfl p5 q5
      have W8:=W7.st (c:=7) (x':= .int .i64 kg) (set_get (set_get (set_get (set_get (set_get (set_get (set_get hxi))))))) rfl p6 q6
      simp only [List.set_set] at W8
      refine hK _ (m-1) _ (by omega) (Weak.keep q) ⟨i+1,kg+1,_,d6,R3,by omega,by omega,?_,W8,?_,fun j hj=>?_,fun j hj=>?_,rfl⟩
      · rw [show (i+1).toNat=i.toNat+1 by omega];omega
      · rw [List.length_set];exact h2
      · by_cases hji:(j:Int)<i
        · rw [List.getElem?_set_ne (show i.toNat≠j by omega)];exact h3 j hji
        · have:j=i.toNat:=by omega
          subst this
          rw [List.getElem?_set_self (by omega),hts,List.getElem?_map,mkL_get _ _ _ _ _ _ hr,<-hk1]
          show some [E.int k1,E.int ka,E.int kb,E.int kc,eX (mkX kd d.Ex),eXs (mkXs ke d.Exs),E.int kf,E.int kg]=some (nfr (mkF k1 d))
          simp only [mkF,nfr]
          rw [hka',hkb',hkc',hkg',hkf,hke,hkd']
      · rw [List.getElem?_set_ne (show i.toNat≠j by omega)];exact h4 j (by omega)
    have hbd:0<=k1/\kg+1<=140737488355328:=by omega
    clear hK h3 h4 m4 m5 hk1 hdr hxi hV V1 V2 V3 V4 V5 V6 V0 hts ch hd4 hd5 hv4 hv5
    cbv
    repeat' first | with_reducible rfl | (simp only [e1,<-hka,<-hkb,<-hkc,<-hkd,<-hkg];cbv) | with_reducible refine And.intro ?_ ?_ | ((with_reducible intro hcc);first | (cases hcc;done) | skip) | ((with_reducible first | show goC _ _ _ _ _ _ _ _ | show goOps _ _ _ _ _ | show goD _ _ _ _ _ _);cbv) | ((with_reducible show okWr _ _=_);rfl) | ((with_reducible show A.call _ _ _ _ _ 154 _ _ _);refine callK_res hA hP rfl ?_ hcal4;cbv) | ((with_reducible show A.call _ _ _ _ _ 155 _ _ _);refine callK_res hA hP rfl ?_ hcal5;cbv) | ((with_reducible refine hA.ld1 _ _ _ ⟨?_,fun c hc=>?_⟩);rotate_left;(have e9:=ld4 (by assumption) (by assumption) (by assumption) (by assumption) (by omega) (by omega) (by omega) (by omega) (by omega) hc);subst e9;cbv) | ((with_reducible refine hA.ld1 _ _ _ ⟨?_,fun c hc=>?_⟩);rotate_left;(have e9:=ld5 (by assumption) (by assumption) (by assumption) (by assumption) (by omega) (by omega) (by omega) (by omega) (by omega) hc);subst e9;cbv) | ((with_reducible first | refine hA.fin_pl _ _ _ ?_ | refine hA.len _ _ _ _ _ fun z hz hb=>?_ | refine hA.off _ _ _ _ fun b hb=>?_ | refine hA.plus _ _ _ fun b hb=>?_);cbv) | ((with_reducible first | refine hA.st _ _ _ _ _ ⟨?_,fun ds hds=>?_⟩ | refine hA.sapp _ _ _ ⟨?_,fun sl hsl=>?_⟩);rotate_left;cbv) | (simp only [hA.lits];cbv)
    all_goals try simp only [hA.ar,inR,n_cast,Int.ofNat_eq_natCast,Option.getD_some,Option.getD_none] at *
    all_goals first
      | omega
      | exact hK2 _ (by assumption) (by assumption) (by assumption) (by assumption) (by assumption) (by assumption) (by omega) (by omega) (by omega) (by omega) (by omega) (by omega) ⟨rfl,rfl,rfl,trivial⟩
      | exact finv_refl hA
      | (subst_vars;simp only [List.length_append,List.length_take,List.length_drop,List.length_cons,List.length_nil];omega)
      | (trace_state;fail)
  · have e1:A.lt i (Int.ofNat n)=false:=by rw [hA.lt,Int.ofNat_eq_natCast];exact decide_eq_false (by omega)
    have hte:xs=ts:=by
      refine List.ext_getElem? fun j=>?_
      by_cases hj:(j:Int)<i
      · exact h3 j hj
      · rw [List.getElem?_eq_none (by omega),List.getElem?_eq_none (by omega)]
    have hRR:R=RF:=by rw [hV.hR,hRF,hte]
    have hdd:ds=dsF:=by rw [hV.hd,hdsF,hte]
    have hkk:k1=kr:=by
      rw [List.drop_eq_nil_of_le (by omega)] at hk1
      simp only [sumC] at hk1
      omega
    clear hK h3 h4 hV V0 hR0 hds0 hdsF hRF
    subst hRR hkk hdd
    cbv
    repeat' first | with_reducible rfl | (simp only [e1];cbv) | with_reducible refine And.intro ?_ ?_ | ((with_reducible intro hcc);first | (cases hcc;done) | skip) | ((with_reducible first | show goC _ _ _ _ _ _ _ _ | show goOps _ _ _ _ _ | show goD _ _ _ _ _ _);cbv) | ((with_reducible show okWr _ _=_);rfl) | ((with_reducible first | refine hA.fin_pl _ _ _ ?_ | refine hA.len _ _ _ _ _ fun z hz hb=>?_ | refine hA.off _ _ _ _ fun b hb=>?_ | refine hA.plus _ _ _ fun b hb=>?_);cbv) | ((with_reducible first | refine hA.st _ _ _ _ _ ⟨?_,fun ds hds=>?_⟩ | refine hA.sapp _ _ _ ⟨?_,fun sl hsl=>?_⟩);rotate_left;cbv) | (simp only [hA.lits];cbv)
    all_goals try simp only [hA.ar,inR,n_cast,Int.ofNat_eq_natCast,Option.getD_some,Option.getD_none] at *
    all_goals first
      | omega
      | exact finv_refl hA
      | (trace_state;fail))
set_option maxRecDepth 100000 in
theorem ok102z (k:Int) (hk:0<=k) (hk2:k<=140737488355328):Plain Try.prog 102 [.e (.sl []),.int k] (.int k):=okOf mixed p102 fun A P hA hP=>(by
  obtain ⟨es,hes⟩: ∃es:List (List E),es= []:=⟨_,rfl⟩
  have hl:es.length=0:=by rw [hes];rfl
  obtain ⟨i0,hi0⟩: ∃i:Int,i=0:=⟨_,rfl⟩
  obtain ⟨z1,hz1⟩: ∃z:Int,z=es.length:=⟨_,rfl⟩
  rw [<-hes]
  cbv
  repeat' first | with_reducible rfl | with_reducible refine And.intro ?_ ?_ | ((with_reducible intro hcc);first | (cases hcc;done) | skip) | ((with_reducible first | show goC _ _ _ _ _ _ _ _ | show goOps _ _ _ _ _ | show goD _ _ _ _ _ _);cbv) | ((with_reducible show okWr _ _=_);rfl) | ((with_reducible first | refine hA.fin_pl _ _ _ ?_ | refine hA.len _ _ _ _ _ fun z hz hb=>?_ | refine hA.off _ _ _ _ fun b hb=>?_ | refine hA.plus _ _ _ fun b hb=>?_);cbv) | ((with_reducible first | refine hA.st _ _ _ _ _ ⟨?_,fun ds hds=>?_⟩ | refine hA.sapp _ _ _ ⟨?_,fun sl hsl=>?_⟩);rotate_left;cbv) | (simp only [hA.lits];cbv)
  all_goals try simp only [hA.ar,inR,n_cast,Int.ofNat_eq_natCast,Option.getD_some,Option.getD_none] at *
  all_goals try omega
  refine hA.loopI (fun m s=>s=⟨[(5,.int i0),(0,.e (.sl es)),(1,.int k)], []⟩) 0 _
      (Weak.keep (env':= [(5,.int i0),(0,.e (.sl es)),(1,.int k)]) ⟨by rw [hi0];rfl,rfl,rfl,trivial⟩) rfl ?_
  rintro m s K' rfl hK
  have e1:A.lt i0 z1=false:=by rw [hA.lt];exact decide_eq_false (by omega)
  cbv
  repeat' first | with_reducible rfl | (simp only [e1];cbv) | with_reducible refine And.intro ?_ ?_ | ((with_reducible intro hcc);first | (cases hcc;done) | skip) | ((with_reducible first | show goC _ _ _ _ _ _ _ _ | show goOps _ _ _ _ _ | show goD _ _ _ _ _ _);cbv) | ((with_reducible show okWr _ _=_);rfl) | ((with_reducible refine hA.len es _ _ _ _ fun z hz hb=>?_);(have e6:=hz1.trans hz.symm);subst e6;cbv) | ((with_reducible first | refine hA.fin_pl _ _ _ ?_ | refine hA.len _ _ _ _ _ fun z hz hb=>?_ | refine hA.off _ _ _ _ fun b hb=>?_ | refine hA.plus _ _ _ fun b hb=>?_);cbv) | ((with_reducible first | refine hA.st _ _ _ _ _ ⟨?_,fun ds hds=>?_⟩ | refine hA.sapp _ _ _ ⟨?_,fun sl hsl=>?_⟩);rotate_left;cbv) | (simp only [hA.lits];cbv)
  all_goals try simp only [hA.ar,inR,n_cast,Int.ofNat_eq_natCast,Option.getD_some,Option.getD_none] at *
  all_goals first
    | omega
    | (trace_state;fail))
theorem mark263 (i:Nat) (L:List Nf) (k:Int) (hk:0<=k) (hk2:k+sumC cF L<=140737488355328) (hlen:L.length<=1048576) (hlx: ∀n∈L,n.Exs.2.length<=1048576):MarkC Try.prog 102 id (eFs i L) (eFs i (mkL mkF cF k L)) k (k+sumC cF L):=by
  have h0:=sumC_nonneg cF_nonneg L
  have hk1: ∀L:List Nf,∀e∈L.map nfr,e.length=8:=fun L e h=>by
    obtain ⟨p,_,rfl⟩:=List.mem_map.1 h
    rfl
  refine markOuter (k:=8) (sca_alike (k:=8) (fun _=>rfl) (fun a b j=>?_) L _ (mkL_len _ _ _ _)) (by simp [mkL_len]) (hk1 _) (NS.okV_int hk (by omega)) (fun h=>?_) (fun _ _ vs hvs=>?_) (hk1 _)
  · match j with
    | 0 | 1 | 2 | 3 | 4 | 5 | 6 | 7=>rfl
    | j+8=>rfl
  · have h:L= []:=by simpa using h
    have:=ok102z k hk (by omega)
    subst h
    simpa [sumC] using this
  · exact w263 L vs hvs k hk hk2 hlen hlx
theorem rv_one {w:World} {G:Gh} {h:Hp} {v:Value} {i:Nat} (r:Rv w G h v (.rv i)):v.oneCell'=true:=by
  cases r with | rv _ h=>exact h
theorem str_side {z z':Int} {x:Value} {R R':World->Value->List Nat->Prop} :Side (fun t=> [.agg [.rv (t 0),.e (.v x)],.int z]) (fun _=> [.res R]) (fun _=> .int z') (fun _=> [.res R']):=
  ⟨fun t=>rfl,rfl,fun t=>rfl,by intro o ho;rw [List.mem_singleton] at ho;subst ho;rfl,fun t=>rfl,fun t=>rfl,Nat.le_refl _⟩
theorem res_fin {A:Ar} (hA:A.Ok) {R R':World->Value->List Nat->Prop} {z:Int} {l':List O} (h:hpF l' 0= .res R'):A.finv [.res R] l' (.int z) [.res R'] (.int z):=
  hA.finv _ _ _ _ _ (FinV.ren [0] (fun _=> [.res R']) (fun _=> .int z) rfl (.inl rfl) ⟨h,trivial⟩ (fun t=>rfl) rfl (fun t=>rfl) (by intro o ho;rw [List.mem_singleton] at ho;subst ho;rfl))
set_option maxRecDepth 100000 in
theorem mark224 (i:Nat) (L:List Nf) (root k:Int) (hroot:okV (.int .i64 root)=true) (hk:0<=k) (hk2:k+sumC cF L<=140737488355328) (hlen:L.length<=1048576) (hlx: ∀n∈L,n.Exs.2.length<=1048576):
    MarkC Try.prog 44 (fun v=> .agg #[v,.int .i64 root]) (eFs i L) (eFs i (mkL mkF cF k L)) k (k+sumC cF L):=by
  have h0:=sumC_nonneg cF_nonneg L
  refine markStruct (d:=fun t=> .agg [.rv (t 0),.int root]) (NS.okV_int hk (by omega)) (fun w G h r=>?_) (procOf mixed p44 str_side fun A P hA hP=>(by
    have hm:=mark263 i L k hk hk2 hlen hlx
    obtain ⟨R0,hR0⟩: ∃R,R=Tree (eFs i L):=⟨_,rfl⟩
    obtain ⟨R1,hR1⟩: ∃R,R=Tree (eFs i (mkL mkF cF k L)):=⟨_,rfl⟩
    obtain ⟨k2,hk2'⟩: ∃k2,k2=k+sumC cF L:=⟨_,rfl⟩
    rw [<-hk2'] at hm ⊢
    rw [<-hR0,<-hR1]
    have hcal: ∀f,CallE Try.prog 102 [.rv 0,.int k] [(0,.res R0)] f {d:=some (.int k2),wr:= [(0,.res R1)],tc:= [0]} :=fun f=>by
      rw [hR0,hR1]
      exact hm.callE fun _ _ _ _ r=>NS.rv_id r
    clear hm hR0 hR1 hk2'
    cbv
    repeat' first | with_reducible rfl | with_reducible refine And.intro ?_ ?_ | ((with_reducible intro hcc);first | (cases hcc;done) | skip) | ((with_reducible first | show goC _ _ _ _ _ _ _ _ | show goOps _ _ _ _ _ | show goD _ _ _ _ _ _);cbv) | ((with_reducible show okWr _ _=_);rfl) | ((with_reducible show A.call _ _ _ _ _ 102 _ _ _);refine callK_res hA hP rfl ?_ hcal;cbv) | ((with_reducible refine res_fin hA ?_)) | ((with_reducible first | refine hA.fin_pl _ _ _ ?_);cbv) | (simp only [hA.lits];cbv)
    all_goals try simp only [hA.ar,inR,n_cast,Int.ofNat_eq_natCast,Option.getD_some,Option.getD_none] at *
    all_goals first
      | omega
      | rfl
      | (trace_state;fail)))
  · refine .agg rfl (fun j c hc=>?_) fun j c d hc hd=>?_
    · match j with
      | 0=>simp at hc;subst hc;exact rv_one r
      | 1=>simp at hc;subst hc;rfl
      | j+2=>simp at hc
    · match j with
      | 0=>simp at hc hd;subst hc;subst hd;exact r
      | 1=>simp at hc hd;subst hc;subst hd;exact .e (.v hroot)
      | j+2=>simp at hc
end Go.Proofs.Ytfplalbognalkaa.Ab
