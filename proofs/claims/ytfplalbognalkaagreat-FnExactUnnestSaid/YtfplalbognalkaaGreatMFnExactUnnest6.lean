/- Unnesting by the program: one step, by kind. -/
import Derived.Test.YtfplalbognalkaaGreatMFnExactUnnest5
set_option linter.unusedSimpArgs false
set_option linter.unusedVariables false
set_option linter.unnecessarySimpa false
set_option linter.constructorNameAsVariable false
set_option maxRecDepth 100000
set_option maxHeartbeats 16000000
namespace Go.Proofs.YtfplalbognalkaaGreat.Ab
open Go
def c88:F:=⟨21, [(.tmp 4)],(.seq (.reg [ZA 3 (.box 1),ZA 4 (.mov (.c (.int 0)))]) (.seq (.dreg [⟨ZM 5 0, [], [0]⟩,⟨ZM 6 0, [0], [0]⟩,⟨ZA 7 (.nilc 6), [0], [6]⟩,⟨ZE 8 2 7, [0], [7]⟩,⟨ZL 9 8, [0], [8]⟩,⟨ZA 10 (.load true 8 3), [0,1,2,3,4], [3]⟩,⟨ZA 11 (.lit 8 [(.v (.int .i64 0)),(.v (.int .i64 0)),(.v (.int .i64 0)),(.v (.int .i64 0)),(.sl []),(.sl []),(.v (.int .i64 0)),(.v (.int .i64 0))] 1 [(0,10)]), [0,1,2,3,4], [10]⟩,⟨ZA 12 (.app 8 9 11), [0], [9,11]⟩,⟨ZA 13 (.nilc 5), [], [5]⟩,⟨ZE 14 2 13, [], [13]⟩,⟨ZN (.store false 1 14 12), [], [14,12]⟩]) (.seq (.reg [ZM 15 0,ZA 16 (.nilc 15),ZE 17 2 16,ZL 18 17,ZA 19 (.lenl 18),ZA 20 (.bin .sub 19 (.c (.int 1))),ZM 4 20]) .ret)))⟩
theorem p88:prepF Tryz.prog 88=some c88:=by kernel_rfl
def c39:F:=⟨182, [(.tmp 8)],(.seq (.reg [ZA 8 (.mov (.c (.int 0)))]) (.seq (.reg [ZM 22 0,ZA 23 (.nilc 22),ZE 24 0 23,ZE 25 0 24,ZL 26 25,ZM 27 1,ZA 28 (.iadr none 7 26 27),ZA 29 (.load true 7 28),ZA 9 (.alloc [(.int 0),(.int 0),(.int 0),(.e (.sl [])),(.e (.sl [])),(.int 0),(.int 0)]),ZN (.store true 7 9 29)]) (.seq (.seq (.reg [ZE 30 0 9,ZL 31 30]) (.block 0 (.seq (.reg [ZA 33 (.bin .eql 31 (.c (.int 1))),ZM 32 33]) (.cond 32 (.seq (.reg [ZM 34 2,ZM 8 34]) .ret) (.seq (.reg [ZA 36 (.bin .eql 31 (.c (.int 2))),ZM 35 36]) (.cond 35 (.seq (.reg [ZM 37 0,ZE 38 1 9,ZL 39 38,ZA 40 (.build [(.int 0),(.int 0),(.int 0),(.int 0),.zs,.zs,(.int 0),(.int 0)] [(0,(1,(.c (.int 2)))),(1,(1,39))]),ZC 41 88 [37,40],ZM 10 41]) (.seq (.reg [ZM 42 0,ZM 43 2,ZM 44 10,ZA 45 (.build [(.int 0),(.int 0),(.int 0),(.int 0),.zs,.zs,(.int 0),(.int 0)] [(0,(1,(.c (.int 5)))),(6,(1,43)),(7,(1,44))]),ZC 46 88 [42,45],ZM 8 46]) .ret)) (.seq (.reg [ZA 48 (.bin .eql 31 (.c (.int 3))),ZM 47 48]) (.cond 47 (.seq (.reg [ZM 49 0,ZE 50 5 9,ZL 51 50,ZM 52 2,ZM 53 3,ZC 54 39 [49,51,52,53],ZM 11 54]) (.seq (.reg [ZM 55 0,ZE 56 3 9,ZL 57 56,ZC 58 89 [57],ZM 59 11,ZA 60 (.build [(.int 0),(.int 0),(.int 0),(.int 0),.zs,.zs,(.int 0),(.int 0)] [(0,(1,(.c (.int 3)))),(4,(1,58)),(6,(1,59))]),ZC 61 88 [55,60],ZM 8 61]) .ret)) (.seq (.reg [ZA 63 (.bin .eql 31 (.c (.int 4))),ZM 62 63]) (.cond 62 (.seq (.reg [ZM 64 0,ZE 65 5 9,ZL 66 65,ZM 67 2,ZM 68 3,ZC 69 39 [64,66,67,68],ZM 12 69]) (.seq (.reg [ZA 70 (.lit 1 [(.sl [])] 0 []),ZM 13 70]) (.seq (.seq (.reg [ZM 71 3,ZA 72 (.mov (.c (.int 0)))]) (.block 1 (.loop (.seq (.reg [ZA 73 (.bin .lss 72 71)]) (.seq (.cond 73 .skip (.exit 1)) (.seq (.block 2 (.seq (.reg [ZM 74 72,ZM 14 74]) (.reg [ZM 75 13,ZM 76 14,ZC 77 90 [76],ZA 78 (.lit 1 [(.sl [])] 1 [(0,77)]),ZA 79 (.app 1 75 78),ZM 13 79]))) (.reg [ZA 80 (.bin .add 72 (.c (.int 1))),ZM 72 80]))))))) (.seq (.reg [ZM 81 0,ZM 82 13,ZE 83 4 9,ZL 84 83,ZC 85 91 [84],ZA 86 (.app 1 82 85),ZM 87 12,ZA 88 (.build [(.int 0),(.int 0),(.int 0),(.int 0),.zs,.zs,(.int 0),(.int 0)] [(0,(1,(.c (.int 4)))),(5,(1,86)),(6,(1,87))]),ZC 89 88 [81,88],ZM 8 89]) .ret)))) (.seq (.reg [ZA 91 (.bin .eql 31 (.c (.int 9))),ZM 90 91]) (.cond 90 (.seq (.reg [ZM 92 0,ZE 93 5 9,ZL 94 93,ZM 95 2,ZM 96 3,ZC 97 39 [92,94,95,96],ZM 15 97]) (.seq (.reg [ZM 98 0,ZM 99 15,ZA 100 (.build [(.int 0),(.int 0),(.int 0),(.int 0),.zs,.zs,(.int 0),(.int 0)] [(0,(1,(.c (.int 8)))),(6,(1,99))]),ZC 101 88 [98,100],ZM 8 101]) .ret)) .skip)))))))))))) (.seq (.reg [ZM 102 0,ZE 103 5 9,ZL 104 103,ZM 105 2,ZM 106 3,ZC 107 39 [102,104,105,106],ZM 16 107]) (.seq (.seq (.reg [ZE 108 0 9,ZL 109 108,ZA 110 (.bin .eql 109 (.c (.int 5))),ZM 111 110,ZF 112 111 (.fadr 0 9),ZF 113 111 (.load false 1 112),ZF 114 111 (.bin .eql 113 (.c (.int 10))),ZA 115 (.pick 111 (.c (.bool true)) 114)]) (.cond 115 (.seq (.reg [ZM 116 0,ZE 117 6 9,ZL 118 117,ZM 119 2,ZM 120 3,ZC 121 39 [116,118,119,120],ZM 17 121]) (.seq (.seq (.reg [ZE 122 0 9,ZL 123 122,ZA 124 (.bin .eql 123 (.c (.int 10)))]) (.cond 124 (.seq (.reg [ZM 125 0,ZM 126 16,ZM 127 17,ZA 128 (.build [(.int 0),(.int 0),(.int 0),(.int 0),.zs,.zs,(.int 0),(.int 0)] [(0,(1,(.c (.int 9)))),(6,(1,126)),(7,(1,127))]),ZC 129 88 [125,128],ZM 8 129]) .ret) .skip)) (.seq (.reg [ZM 130 0,ZM 131 3,ZM 132 16,ZM 133 17,ZA 134 (.build [(.int 0),(.int 0),(.int 0),(.int 0),.zs,.zs,(.int 0),(.int 0)] [(0,(1,(.c (.int 5)))),(3,(1,131)),(6,(1,132)),(7,(1,133))]),ZC 135 88 [130,134],ZM 8 135]) .ret))) .skip)) (.seq (.reg [ZM 136 0,ZM 137 16,ZA 138 (.build [(.int 0),(.int 0),(.int 0),(.int 0),.zs,.zs,(.int 0),(.int 0)] [(0,(1,(.c (.int 8)))),(6,(1,137))]),ZC 139 88 [136,138],ZM 18 139]) (.seq (.dreg [⟨ZM 140 3, [], [3]⟩,⟨ZM 141 0, [0], [0]⟩,⟨ZA 142 (.nilc 141), [0], [141]⟩,⟨ZE 143 1 142, [0], [142]⟩,⟨ZL 144 143, [0], [143]⟩,⟨ZE 145 5 9, [0,1,2,3,4], [9]⟩,⟨ZL 146 145, [0,1,2,3,4], [145]⟩,⟨ZA 147 (.iadr none 1 144 146), [0], [144,146]⟩,⟨ZL 148 147, [0], [147]⟩,⟨ZA 149 (.bin .add 140 148), [], [140,148]⟩,⟨ZM 19 149, [], [149]⟩]) (.seq (.reg [ZM 150 0,ZE 151 6 9,ZL 152 151,ZM 153 18,ZM 154 19,ZC 155 39 [150,152,153,154],ZM 20 155]) (.seq (.reg [ZM 156 19,ZM 157 16,ZM 158 20,ZA 159 (.build [(.int 0),(.int 0),(.int 0),(.int 0),.zs,.zs,(.int 0),(.int 0)] [(0,(1,(.c (.int 5)))),(3,(1,156)),(6,(1,157)),(7,(1,158))]),ZA 21 (.alloc [(.int 0),(.int 0),(.int 0),(.int 0),(.e (.sl [])),(.e (.sl [])),(.int 0),(.int 0)]),ZN (.store true 8 21 159)]) (.seq (.seq (.reg [ZE 160 0 9,ZL 161 160]) (.block 3 (.seq (.reg [ZA 163 (.bin .eql 161 (.c (.int 7))),ZM 162 163]) (.cond 162 (.reg [ZE 164 3 9,ZL 165 164,ZC 166 89 [165],ZE 167 0 21,ZN (.store false 1 167 (.c (.int 6))),ZE 168 4 21,ZN (.store false 1 168 166)]) (.seq (.reg [ZA 170 (.bin .eql 161 (.c (.int 8))),ZM 169 170]) (.cond 169 (.dreg [⟨ZE 171 2 9, [], [9]⟩,⟨ZL 172 171, [], [171]⟩,⟨ZE 173 3 9, [0,1], [9]⟩,⟨ZL 174 173, [0,1], [173]⟩,⟨ZC 175 89 [174], [0,1], [174]⟩,⟨ZE 176 0 21, [0,1,2,3,4], [21]⟩,⟨ZN (.store false 1 176 (.c (.int 7))), [0,1], [176]⟩,⟨ZE 177 2 21, [], [21]⟩,⟨ZN (.store false 1 177 172), [], [177,172]⟩,⟨ZE 178 4 21, [], [21]⟩,⟨ZN (.store false 1 178 175), [], [178,175]⟩]) .skip)))))) (.seq (.reg [ZM 179 0,ZA 180 (.load true 8 21),ZC 181 88 [179,180],ZM 8 181]) .ret)))))))))))⟩
theorem p39:prepF Tryz.prog 39=some c39:=by kernel_rfl
def SubS:List D->List D->Prop
 | [], []=>True
 | d::r,d'::r'=>Sub d d'/\SubS r r'
 | _,_=>False
theorem SubS.len: ∀ {a b:List D},SubS a b->a.length=b.length
 | [], [],_=>rfl
 | _::_,_::_,h=>by simp [SubS.len h.2]
 | [],_::_,h=>h.elim
 | _::_, [],h=>h.elim
theorem SubS.get: ∀ {a b:List D} {j:Nat} {d':D},SubS a b->b[j]?=some d'-> ∃d,a[j]?=some d/\Sub d d'
 | [], [],_,_,_,h=>by simp at h
 | x::r,y::r',0,d',h,hd=>by simp at hd;subst hd;exact ⟨x,rfl,h.1⟩
 | x::r,y::r',j+1,d',h,hd=>by
  obtain ⟨d,h1,h2⟩:=SubS.get h.2 (by simpa using hd)
  exact ⟨d,by simpa using h1,h2⟩
 | [],_::_,_,_,h,_=>h.elim
 | _::_, [],_,_,h,_=>h.elim
theorem Sub.agg {a b:List D} (s:SubS a b):Sub (.agg a) (.agg b):=fun w G h v r=>by
 cases r with
 | agg hl h1 hr=>
  refine .agg (hl.trans s.len) h1 fun j c' d' hc hd=>?_
  obtain ⟨d,e1,e2⟩:=s.get hd
  exact e2 w G h c' (hr j c' d hc e1)
abbrev frD (k t m w:Int) (X Y:D) (l r:Int):D:= .agg [.int k,.int t,.int m,.int w,X,Y,.int l,.int r]
abbrev frE (k t m w:Int) (X Y:E) (l r:Int):List E:= [.int k,.int t,.int m,.int w,X,Y,.int l,.int r]
theorem sub2 {k t m w l r:Int} :Sub (frD k t m w .zs .zs l r) (frD k t m w (.e (.fs 0 [])) (.e (.fs 0 [])) l r):=Sub.agg ⟨Sub.refl,Sub.refl,Sub.refl,Sub.refl,sub_zs,sub_zs,Sub.refl,Sub.refl,trivial⟩
theorem sub1 {k t m w l r:Int} {X:E} :Sub (frD k t m w (.e X) .zs l r) (frD k t m w (.e X) (.e (.fs 0 [])) l r):=Sub.agg ⟨Sub.refl,Sub.refl,Sub.refl,Sub.refl,Sub.refl,sub_zs,Sub.refl,Sub.refl,trivial⟩
theorem wk2 {a b b':D} (s:Sub b b'):Wks [a,b] [a,b']:=⟨.inl rfl,.inr (.inr s),trivial⟩
abbrev UA (a b:E) (es:List (List E)) (n:Nat) (k t m w:Int) (X Y:E) (l r:Int) (es':List (List E)) (n':Nat) (p:Int):Prop:=
 Proc Tryz.prog 88 (fun t0=> [.ref (t0 0) 0,frD k t m w (.e X) (.e Y) l r]) (fun t0=> [.box [.e a,.e b,.own (t0 1) es],.front n 8]) (fun _=> .int p) (fun t0=> [.box [.e a,.e b,.own (t0 1) es'],.front n' 8])
theorem ua_side {a b:E} {es es':List (List E)} {n n':Nat} {p:Int} {rw:List E} :Side (fun t0=> [.ref (t0 0) 0,.agg (rw.map .e)]) (fun t0=> [.box [.e a,.e b,.own (t0 1) es],.front n 8]) (fun _=> .int p) (fun t0=> [.box [.e a,.e b,.own (t0 1) es'],.front n' 8]):=
 ⟨fun t=>by simp only [rens,D.ren,rens_e];rfl,by simp only [lts,D.lt,lts_e];rfl,fun t=>rfl,by intro o ho;simp only [List.mem_cons,List.not_mem_nil,or_false] at ho;rcases ho with rfl | rfl <;>rfl,fun t=>rfl,fun t=>rfl,Nat.le_refl _⟩
theorem ua_fin {A:Ar} (hA:A.Ok) {a b:E} {es es':List (List E)} {n n':Nat} {p:Int} {l':List O} (h0:hpF l' 0= .box [.e a,.e b,.own 1 es']) (h1:hpF l' 1= .front n' 8):A.finv [.box [.e a,.e b,.own 1 es],.front n 8] l' (.int p) [.box [.e a,.e b,.own 1 es'],.front n' 8] (.int p):=
 hA.finv _ _ _ _ _ (FinV.ren [0,1] (fun t0=> [.box [.e a,.e b,.own (t0 1) es'],.front n' 8]) (fun _=> .int p) rfl (.inl rfl) ⟨h0,h1,trivial⟩ (fun t=>rfl) rfl (fun t=>rfl) (by intro o ho;simp only [List.mem_cons,List.not_mem_nil,or_false] at ho;rcases ho with rfl | rfl <;>rfl))
theorem ua (a b:E) (es:List (List E)) (n:Nat) (hn:n=es.length) (hb:n<=2000000) (k t m w:Int) (X Y:E) (l r:Int) (es':List (List E)) (n':Nat) (hn':n'=es'.length) (he:es'=es++ [frE k t m w X Y l r]) (p:Int) (hp:p=es.length):UA a b es n k t m w X Y l r es' n' p:=
 procOf mixed p88 (ua_side (rw:=frE k t m w X Y l r)) fun A P hA hP=>(by
 have hl:es'.length=es.length+1:=by rw [he];simp
 obtain ⟨z,hz0⟩: ∃z:Int,z=es'.length:=⟨_,rfl⟩
 have hq:p=A.sub z 1:=by rw [hA.sub];omega
 cbv
 repeat' first | exact W1 | (simp only [<-hq];cbv) | refine WA ?_ ?_ | with_reducible intro hcc | refine WS ?_ | ((with_reducible refine hA.app es _ _ _ _ ⟨?_,fun zs m2 hzs hm=>?_⟩);rotate_left;(have g:=he.trans hzs.symm);subst g;(have g:=hn'.trans hm.symm);subst g;cbv) | ((with_reducible refine hA.len es' _ _ _ _ fun z2 hz hb=>?_);(have e6:=hz0.trans hz.symm);subst e6;cbv) | refine W6 ?_ | ((with_reducible first | refine hA.Len fun z hz hb=>?_);cbv) | ((with_reducible first | refine hA.App ?_ fun zs m hzs hm=>?_ | refine hA.App0 ?_ fun m hm=>?_ | refine hA.Sto ?_ fun ds hds=>?_ | refine hA.Appv ?_ fun bb m ds hbb hm hds=>?_ | refine hA.Vcut ?_ fun cs hcs=>?_ | refine hA.Appw ?_ fun bb m ds hbb hm hds=>?_);rotate_left;cbv) | refine WL ?_ | fail
 all_goals try simp only [hA.sm,n_cast] at *
 all_goals first
  | omega
  | exact ua_fin hA rfl rfl
  | exact congrArg (fun k=>O.front k 8) hn
  | exact ⟨rfl,trivial⟩
  | (simp only [List.length_cons,List.length_nil];omega))
abbrev UI (a b:E) (q:Nat) (i d w:Int) (es:List (List E)) (n:Nat) (q':Nat) (es':List (List E)) (n':Nat) (p:Int):Prop:=
 Proc Tryz.prog 39 (fun t=> [.ref (t 1) 0,.int i,.int d,.int w]) (fun t=> [.ids q,.box [.e a,.e b,.own (t 2) es],.front n 8]) (fun _=> .int p) (fun t=> [.ids q',.box [.e a,.e b,.own (t 2) es'],.front n' 8])
theorem ui_side {a b:E} {q q':Nat} {i d w p:Int} {es es':List (List E)} {n n':Nat} :Side (fun t=> [.ref (t 1) 0,.int i,.int d,.int w]) (fun t=> [.ids q,.box [.e a,.e b,.own (t 2) es],.front n 8]) (fun _=> .int p) (fun t=> [.ids q',.box [.e a,.e b,.own (t 2) es'],.front n' 8]):=
 ⟨fun t=>rfl,rfl,fun t=>rfl,by intro o ho;simp only [List.mem_cons,List.not_mem_nil,or_false] at ho;rcases ho with rfl | rfl | rfl <;>rfl,fun t=>rfl,fun t=>rfl,Nat.le_refl _⟩
theorem ui_fin {A:Ar} (hA:A.Ok) {a b:E} {q q':Nat} {es es':List (List E)} {n n':Nat} {p:Int} {l':List O} (h0:hpF l' 0= .ids q') (h1:hpF l' 1= .box [.e a,.e b,.own 2 es']) (h2:hpF l' 2= .front n' 8):A.finv [.ids q,.box [.e a,.e b,.own 2 es],.front n 8] l' (.int p) [.ids q',.box [.e a,.e b,.own 2 es'],.front n' 8] (.int p):=
 hA.finv _ _ _ _ _ (FinV.ren [0,1,2] (fun t=> [.ids q',.box [.e a,.e b,.own (t 2) es'],.front n' 8]) (fun _=> .int p) rfl (.inl rfl) ⟨h0,h1,h2,trivial⟩ (fun t=>rfl) rfl (fun t=>rfl) (by intro o ho;simp only [List.mem_cons,List.not_mem_nil,or_false] at ho;rcases ho with rfl | rfl | rfl <;>rfl))
theorem ui1 (T M:Int) (Ex:List (Int×Int)) (L R:Int) (x xe ye:List (List E)) (xw:E) (hxe:xe=Ex.map orow) (hel:Ex.length<=1048576) (q:Nat) (i d w:Int) (hi:0<=i/\i<x.length) (es:List (List E)) (n:Nat) (hn:n=es.length) (hlen:n<=1000000) (q1:x.getD i.toNat []= [E.int 1,E.int T,E.int M,E.sl xe,E.sl ye,E.int L,E.int R]):
  UI (.sl x) xw q i d w es n q es n d:=procOf mixed p39 ui_side fun A P hA hP=>(by
 have k1:A.eq 1 1=true:=hA.eq _ _
 have k2:A.eq 1 2=false:=hA.eq _ _
 have k3:A.eq 1 3=false:=hA.eq _ _
 have k4:A.eq 1 4=false:=hA.eq _ _
 have k9:A.eq 1 9=false:=hA.eq _ _
 have k5:A.eq 1 5=false:=hA.eq _ _
 have k10:A.eq 1 10=false:=hA.eq _ _
 have k7:A.eq 1 7=false:=hA.eq _ _
 have k8:A.eq 1 8=false:=hA.eq _ _
 cbv
 repeat' first | exact W1 | (simp only [k1,k2,k3,k4,k9,k5,k10,k7,k8];cbv) | refine WA ?_ ?_ | with_reducible intro hcc | refine WS ?_ | (refine hA.RowE hi q1 ?_;cbv) | ((with_reducible refine hA.st [_,_,_,_,_,_,_] _ _ _ _ ⟨?_,fun ds hds=>?_⟩);rotate_left;subst hds;cbv) | refine W6 ?_ | ((with_reducible first | refine hA.Off fun b hb=>?_ | refine hA.Plus fun b hb=>?_ | refine hA.gb _ _ fun vb hvb=>?_);cbv) | ((with_reducible first | refine hA.App ?_ fun zs m hzs hm=>?_ | refine hA.App0 ?_ fun m hm=>?_ | refine hA.Sto ?_ fun ds hds=>?_ | refine hA.Appv ?_ fun bb m ds hbb hm hds=>?_ | refine hA.Vcut ?_ fun cs hcs=>?_ | refine hA.Appw ?_ fun bb m ds hbb hm hds=>?_ | refine hA.Sapp ?_ fun sl hsl=>?_);rotate_left;cbv) | refine WL ?_ | fail
 all_goals try simp only [hA.sm,n_cast] at *
 all_goals first
  | omega
  | trivial
  | exact ui_fin hA rfl rfl rfl
  | exact ⟨rfl,trivial⟩
  | (simp only [List.length_cons,List.length_nil];omega))
theorem ui2 (T M:Int) (Ex:List (Int×Int)) (L R:Int) (x xe ye:List (List E)) (xw:E) (hxe:xe=Ex.map orow) (hel:Ex.length<=1048576) (q:Nat) (i d w:Int) (hi:0<=i/\i<x.length) (es:List (List E)) (n:Nat) (hn:n=es.length) (hlen:n<=1000000) (es1 es2:List (List E)) (n2:Nat) (hn2:n2=es2.length) (p:Int) (hp:p=es.length) (p2:Int) (hp2:p2=es1.length) (he1:es1=es++ [frE 2 T 0 0 (.fs 0 []) (.fs 0 []) 0 0]) (he2:es2=es1++ [frE 5 0 0 0 (.fs 0 []) (.fs 0 []) d p]) (q1:x.getD i.toNat []= [E.int 2,E.int T,E.int M,E.sl xe,E.sl ye,E.int L,E.int R]):
  UI (.sl x) xw q i d w es n q es2 n2 p2:=procOf mixed p39 ui_side fun A P hA hP=>(by
 have k1:A.eq 2 1=false:=hA.eq _ _
 have k2:A.eq 2 2=true:=hA.eq _ _
 have k3:A.eq 2 3=false:=hA.eq _ _
 have k4:A.eq 2 4=false:=hA.eq _ _
 have k9:A.eq 2 9=false:=hA.eq _ _
 have k5:A.eq 2 5=false:=hA.eq _ _
 have k10:A.eq 2 10=false:=hA.eq _ _
 have k7:A.eq 2 7=false:=hA.eq _ _
 have k8:A.eq 2 8=false:=hA.eq _ _
 have hl1:es1.length=es.length+1:=by rw [he1];simp
 obtain ⟨n1,hn1⟩: ∃n,n=es1.length:=⟨_,rfl⟩
 have a1:=ua (.sl x) xw es n hn (by omega) 2 T 0 0 (.fs 0 []) (.fs 0 []) 0 0 es1 n1 hn1 he1 p hp
 have a2:=ua (.sl x) xw es1 n1 hn1 (by omega) 5 0 0 0 (.fs 0 []) (.fs 0 []) d p es2 n2 hn2 he2 p2 hp2
 cbv
 repeat' first | exact W1 | (simp only [k1,k2,k3,k4,k9,k5,k10,k7,k8];cbv) | refine WA ?_ ?_ | with_reducible intro hcc | refine WS ?_ | (refine hA.RowE hi q1 ?_;cbv) | ((with_reducible refine hA.st [_,_,_,_,_,_,_] _ _ _ _ ⟨?_,fun ds hds=>?_⟩);rotate_left;subst hds;cbv) | ((with_reducible show A.call _ _ _ _ _ 88 _ _ _);refine callK_pr hA hP [1,2] (by rfl) (by exact ⟨rfl,rfl,trivial⟩) (wk2 sub2) ?_ (fun _ _=>a1) a1.side;cbv) | ((with_reducible show A.call _ _ _ _ _ 88 _ _ _);refine callK_pr hA hP [1,2] (by rfl) (by exact ⟨rfl,rfl,trivial⟩) (wk2 sub2) ?_ (fun _ _=>a2) a2.side;cbv) | refine W6 ?_ | ((with_reducible first | refine hA.Off fun b hb=>?_ | refine hA.Plus fun b hb=>?_ | refine hA.gb _ _ fun vb hvb=>?_);cbv) | ((with_reducible first | refine hA.App ?_ fun zs m hzs hm=>?_ | refine hA.App0 ?_ fun m hm=>?_ | refine hA.Sto ?_ fun ds hds=>?_ | refine hA.Appv ?_ fun bb m ds hbb hm hds=>?_ | refine hA.Vcut ?_ fun cs hcs=>?_ | refine hA.Appw ?_ fun bb m ds hbb hm hds=>?_ | refine hA.Sapp ?_ fun sl hsl=>?_);rotate_left;cbv) | refine WL ?_ | fail
 all_goals try simp only [hA.sm,n_cast] at *
 all_goals first
  | omega
  | trivial
  | exact ui_fin hA rfl rfl rfl
  | exact ⟨rfl,trivial⟩
  | (simp only [List.length_cons,List.length_nil];omega))
theorem ui3 (T M:Int) (Ex:List (Int×Int)) (L R:Int) (x xe ye:List (List E)) (xw:E) (hxe:xe=Ex.map orow) (hel:Ex.length<=1048576) (q:Nat) (i d w:Int) (hi:0<=i/\i<x.length) (es:List (List E)) (n:Nat) (hn:n=es.length) (hlen:n<=1000000) (qa:Nat) (es1:List (List E)) (n1:Nat) (hn1:n1=es1.length) (p1:Int) (hb1:n1<=1000000) (es2:List (List E)) (n2:Nat) (hn2:n2=es2.length) (p2:Int) (hp2:p2=es1.length) (he2:es2=es1++ [frE 3 0 0 0 (eX (qa,Ex)) (.fs 0 []) p1 0]) (q1:x.getD i.toNat []= [E.int 3,E.int T,E.int M,E.sl xe,E.sl ye,E.int L,E.int R]) (h1:UI (.sl x) xw q L d w es n qa es1 n1 p1):
  UI (.sl x) xw q i d w es n (qa+1) es2 n2 p2:=procOf mixed p39 ui_side fun A P hA hP=>(by
 have k1:A.eq 3 1=false:=hA.eq _ _
 have k2:A.eq 3 2=false:=hA.eq _ _
 have k3:A.eq 3 3=true:=hA.eq _ _
 have k4:A.eq 3 4=false:=hA.eq _ _
 have k9:A.eq 3 9=false:=hA.eq _ _
 have k5:A.eq 3 5=false:=hA.eq _ _
 have k10:A.eq 3 10=false:=hA.eq _ _
 have k7:A.eq 3 7=false:=hA.eq _ _
 have k8:A.eq 3 8=false:=hA.eq _ _
 obtain ⟨X,hX⟩: ∃X,X=eX (qa,Ex):=⟨_,rfl⟩
 obtain ⟨qb,hqb⟩: ∃q,q=qa+1:=⟨_,rfl⟩
 have h259:=n259 qa Ex xe hxe (by rw [hxe,List.length_map];exact hel)
 rw [<-hX,<-hqb] at h259
 rw [<-hX] at he2
 rw [<-hqb]
 have a1:=ua (.sl x) xw es1 n1 hn1 (by omega) 3 0 0 0 X (.fs 0 []) p1 0 es2 n2 hn2 he2 p2 hp2
 clear hX hqb
 cbv
 repeat' first | exact W1 | (simp only [k1,k2,k3,k4,k9,k5,k10,k7,k8];cbv) | refine WA ?_ ?_ | with_reducible intro hcc | refine WS ?_ | (refine hA.RowE hi q1 ?_;cbv) | ((with_reducible refine hA.st [_,_,_,_,_,_,_] _ _ _ _ ⟨?_,fun ds hds=>?_⟩);rotate_left;subst hds;cbv) | ((with_reducible show A.call _ _ _ _ _ 39 _ _ _);have hc:=h1;refine callK_pr hA hP [0,1,2] (by rfl) (by exact ⟨rfl,rfl,rfl,trivial⟩) (Wks.refl _) ?_ (fun _ _=>hc) hc.side;cbv) | ((with_reducible show A.call _ _ _ _ _ 89 _ _ _);have hc:=h259;refine callK_pr hA hP [0] (by rfl) (by exact ⟨rfl,trivial⟩) (Wks.refl _) ?_ (fun _ _=>hc) hc.side;cbv) | ((with_reducible show A.call _ _ _ _ _ 88 _ _ _);refine callK_pr hA hP [1,2] (by rfl) (by exact ⟨rfl,rfl,trivial⟩) (wk2 sub1) ?_ (fun _ _=>a1) a1.side;cbv) | refine W6 ?_ | ((with_reducible first | refine hA.Off fun b hb=>?_ | refine hA.Plus fun b hb=>?_ | refine hA.gb _ _ fun vb hvb=>?_);cbv) | ((with_reducible first | refine hA.App ?_ fun zs m hzs hm=>?_ | refine hA.App0 ?_ fun m hm=>?_ | refine hA.Sto ?_ fun ds hds=>?_ | refine hA.Appv ?_ fun bb m ds hbb hm hds=>?_ | refine hA.Vcut ?_ fun cs hcs=>?_ | refine hA.Appw ?_ fun bb m ds hbb hm hds=>?_ | refine hA.Sapp ?_ fun sl hsl=>?_);rotate_left;cbv) | refine WL ?_ | fail
 all_goals try simp only [hA.sm,n_cast] at *
 all_goals first
  | omega
  | trivial
  | exact ui_fin hA rfl rfl rfl
  | exact ⟨rfl,trivial⟩
  | (simp only [List.length_cons,List.length_nil];omega))
theorem ui9 (T M:Int) (Ex:List (Int×Int)) (L R:Int) (x xe ye:List (List E)) (xw:E) (hxe:xe=Ex.map orow) (hel:Ex.length<=1048576) (q:Nat) (i d w:Int) (hi:0<=i/\i<x.length) (es:List (List E)) (n:Nat) (hn:n=es.length) (hlen:n<=1000000) (qa:Nat) (es1:List (List E)) (n1:Nat) (hn1:n1=es1.length) (p1:Int) (hb1:n1<=1000000) (es2:List (List E)) (n2:Nat) (hn2:n2=es2.length) (p2:Int) (hp2:p2=es1.length) (he2:es2=es1++ [frE 8 0 0 0 (.fs 0 []) (.fs 0 []) p1 0]) (q1:x.getD i.toNat []= [E.int 9,E.int T,E.int M,E.sl xe,E.sl ye,E.int L,E.int R]) (h1:UI (.sl x) xw q L d w es n qa es1 n1 p1):
  UI (.sl x) xw q i d w es n qa es2 n2 p2:=procOf mixed p39 ui_side fun A P hA hP=>(by
 have k1:A.eq 9 1=false:=hA.eq _ _
 have k2:A.eq 9 2=false:=hA.eq _ _
 have k3:A.eq 9 3=false:=hA.eq _ _
 have k4:A.eq 9 4=false:=hA.eq _ _
 have k9:A.eq 9 9=true:=hA.eq _ _
 have k5:A.eq 9 5=false:=hA.eq _ _
 have k10:A.eq 9 10=false:=hA.eq _ _
 have k7:A.eq 9 7=false:=hA.eq _ _
 have k8:A.eq 9 8=false:=hA.eq _ _
 have a1:=ua (.sl x) xw es1 n1 hn1 (by omega) 8 0 0 0 (.fs 0 []) (.fs 0 []) p1 0 es2 n2 hn2 he2 p2 hp2
 cbv
 repeat' first | exact W1 | (simp only [k1,k2,k3,k4,k9,k5,k10,k7,k8];cbv) | refine WA ?_ ?_ | with_reducible intro hcc | refine WS ?_ | (refine hA.RowE hi q1 ?_;cbv) | ((with_reducible refine hA.st [_,_,_,_,_,_,_] _ _ _ _ ⟨?_,fun ds hds=>?_⟩);rotate_left;subst hds;cbv) | ((with_reducible show A.call _ _ _ _ _ 39 _ _ _);have hc:=h1;refine callK_pr hA hP [0,1,2] (by rfl) (by exact ⟨rfl,rfl,rfl,trivial⟩) (Wks.refl _) ?_ (fun _ _=>hc) hc.side;cbv) | ((with_reducible show A.call _ _ _ _ _ 88 _ _ _);refine callK_pr hA hP [1,2] (by rfl) (by exact ⟨rfl,rfl,trivial⟩) (wk2 sub2) ?_ (fun _ _=>a1) a1.side;cbv) | refine W6 ?_ | ((with_reducible first | refine hA.Off fun b hb=>?_ | refine hA.Plus fun b hb=>?_ | refine hA.gb _ _ fun vb hvb=>?_);cbv) | ((with_reducible first | refine hA.App ?_ fun zs m hzs hm=>?_ | refine hA.App0 ?_ fun m hm=>?_ | refine hA.Sto ?_ fun ds hds=>?_ | refine hA.Appv ?_ fun bb m ds hbb hm hds=>?_ | refine hA.Vcut ?_ fun cs hcs=>?_ | refine hA.Appw ?_ fun bb m ds hbb hm hds=>?_ | refine hA.Sapp ?_ fun sl hsl=>?_);rotate_left;cbv) | refine WL ?_ | fail
 all_goals try simp only [hA.sm,n_cast] at *
 all_goals first
  | omega
  | trivial
  | exact ui_fin hA rfl rfl rfl
  | exact ⟨rfl,trivial⟩
  | (simp only [List.length_cons,List.length_nil];omega))
theorem ui5 (T M:Int) (Ex:List (Int×Int)) (L R:Int) (x xe ye:List (List E)) (xw:E) (hxe:xe=Ex.map orow) (hel:Ex.length<=1048576) (q:Nat) (i d w:Int) (hi:0<=i/\i<x.length) (es:List (List E)) (n:Nat) (hn:n=es.length) (hlen:n<=1000000) (qa:Nat) (es1:List (List E)) (n1:Nat) (hn1:n1=es1.length) (p1:Int) (hb1:n1<=1000000) (qc:Nat) (es3:List (List E)) (n3:Nat) (hn3:n3=es3.length) (p3:Int) (hb3:n3<=1000000) (es2:List (List E)) (n2:Nat) (hn2:n2=es2.length) (p2:Int) (hp2:p2=es3.length) (he2:es2=es3++ [frE 5 0 0 w (.fs 0 []) (.fs 0 []) p1 p3]) (q1:x.getD i.toNat []= [E.int 5,E.int T,E.int M,E.sl xe,E.sl ye,E.int L,E.int R]) (h1:UI (.sl x) xw q L d w es n qa es1 n1 p1) (h2:UI (.sl x) xw qa R d w es1 n1 qc es3 n3 p3):
  UI (.sl x) xw q i d w es n qc es2 n2 p2:=procOf mixed p39 ui_side fun A P hA hP=>(by
 have k1:A.eq 5 1=false:=hA.eq _ _
 have k2:A.eq 5 2=false:=hA.eq _ _
 have k3:A.eq 5 3=false:=hA.eq _ _
 have k4:A.eq 5 4=false:=hA.eq _ _
 have k9:A.eq 5 9=false:=hA.eq _ _
 have k5:A.eq 5 5=true:=hA.eq _ _
 have k10:A.eq 5 10=false:=hA.eq _ _
 have k7:A.eq 5 7=false:=hA.eq _ _
 have k8:A.eq 5 8=false:=hA.eq _ _
 have a1:=ua (.sl x) xw es3 n3 hn3 (by omega) 5 0 0 w (.fs 0 []) (.fs 0 []) p1 p3 es2 n2 hn2 he2 p2 hp2
 cbv
 repeat' first | exact W1 | (simp only [k1,k2,k3,k4,k9,k5,k10,k7,k8];cbv) | refine WA ?_ ?_ | with_reducible intro hcc | refine WS ?_ | (refine hA.RowE hi q1 ?_;cbv) | ((with_reducible refine hA.st [_,_,_,_,_,_,_] _ _ _ _ ⟨?_,fun ds hds=>?_⟩);rotate_left;subst hds;cbv) | ((with_reducible show A.call _ _ _ _ _ 39 _ _ _);have hc:=h1;refine callK_pr hA hP [0,1,2] (by rfl) (by exact ⟨rfl,rfl,rfl,trivial⟩) (Wks.refl _) ?_ (fun _ _=>hc) hc.side;cbv) | ((with_reducible show A.call _ _ _ _ _ 39 _ _ _);have hc:=h2;refine callK_pr hA hP [0,1,2] (by rfl) (by exact ⟨rfl,rfl,rfl,trivial⟩) (Wks.refl _) ?_ (fun _ _=>hc) hc.side;cbv) | ((with_reducible show A.call _ _ _ _ _ 88 _ _ _);refine callK_pr hA hP [1,2] (by rfl) (by exact ⟨rfl,rfl,trivial⟩) (wk2 sub2) ?_ (fun _ _=>a1) a1.side;cbv) | refine W6 ?_ | ((with_reducible first | refine hA.Off fun b hb=>?_ | refine hA.Plus fun b hb=>?_ | refine hA.gb _ _ fun vb hvb=>?_);cbv) | ((with_reducible first | refine hA.App ?_ fun zs m hzs hm=>?_ | refine hA.App0 ?_ fun m hm=>?_ | refine hA.Sto ?_ fun ds hds=>?_ | refine hA.Appv ?_ fun bb m ds hbb hm hds=>?_ | refine hA.Vcut ?_ fun cs hcs=>?_ | refine hA.Appw ?_ fun bb m ds hbb hm hds=>?_ | refine hA.Sapp ?_ fun sl hsl=>?_);rotate_left;cbv) | refine WL ?_ | fail
 all_goals try simp only [hA.sm,n_cast] at *
 all_goals first
  | omega
  | trivial
  | exact ui_fin hA rfl rfl rfl
  | exact ⟨rfl,trivial⟩
  | (simp only [List.length_cons,List.length_nil];omega))
theorem ui10 (T M:Int) (Ex:List (Int×Int)) (L R:Int) (x xe ye:List (List E)) (xw:E) (hxe:xe=Ex.map orow) (hel:Ex.length<=1048576) (q:Nat) (i d w:Int) (hi:0<=i/\i<x.length) (es:List (List E)) (n:Nat) (hn:n=es.length) (hlen:n<=1000000) (qa:Nat) (es1:List (List E)) (n1:Nat) (hn1:n1=es1.length) (p1:Int) (hb1:n1<=1000000) (qc:Nat) (es3:List (List E)) (n3:Nat) (hn3:n3=es3.length) (p3:Int) (hb3:n3<=1000000) (es2:List (List E)) (n2:Nat) (hn2:n2=es2.length) (p2:Int) (hp2:p2=es3.length) (he2:es2=es3++ [frE 9 0 0 0 (.fs 0 []) (.fs 0 []) p1 p3]) (q1:x.getD i.toNat []= [E.int 10,E.int T,E.int M,E.sl xe,E.sl ye,E.int L,E.int R]) (h1:UI (.sl x) xw q L d w es n qa es1 n1 p1) (h2:UI (.sl x) xw qa R d w es1 n1 qc es3 n3 p3):
  UI (.sl x) xw q i d w es n qc es2 n2 p2:=procOf mixed p39 ui_side fun A P hA hP=>(by
 have k1:A.eq 10 1=false:=hA.eq _ _
 have k2:A.eq 10 2=false:=hA.eq _ _
 have k3:A.eq 10 3=false:=hA.eq _ _
 have k4:A.eq 10 4=false:=hA.eq _ _
 have k9:A.eq 10 9=false:=hA.eq _ _
 have k5:A.eq 10 5=false:=hA.eq _ _
 have k10:A.eq 10 10=true:=hA.eq _ _
 have k7:A.eq 10 7=false:=hA.eq _ _
 have k8:A.eq 10 8=false:=hA.eq _ _
 have a1:=ua (.sl x) xw es3 n3 hn3 (by omega) 9 0 0 0 (.fs 0 []) (.fs 0 []) p1 p3 es2 n2 hn2 he2 p2 hp2
 cbv
 repeat' first | exact W1 | (simp only [k1,k2,k3,k4,k9,k5,k10,k7,k8];cbv) | refine WA ?_ ?_ | with_reducible intro hcc | refine WS ?_ | (refine hA.RowE hi q1 ?_;cbv) | ((with_reducible refine hA.st [_,_,_,_,_,_,_] _ _ _ _ ⟨?_,fun ds hds=>?_⟩);rotate_left;subst hds;cbv) | ((with_reducible show A.call _ _ _ _ _ 39 _ _ _);have hc:=h1;refine callK_pr hA hP [0,1,2] (by rfl) (by exact ⟨rfl,rfl,rfl,trivial⟩) (Wks.refl _) ?_ (fun _ _=>hc) hc.side;cbv) | ((with_reducible show A.call _ _ _ _ _ 39 _ _ _);have hc:=h2;refine callK_pr hA hP [0,1,2] (by rfl) (by exact ⟨rfl,rfl,rfl,trivial⟩) (Wks.refl _) ?_ (fun _ _=>hc) hc.side;cbv) | ((with_reducible show A.call _ _ _ _ _ 88 _ _ _);refine callK_pr hA hP [1,2] (by rfl) (by exact ⟨rfl,rfl,trivial⟩) (wk2 sub2) ?_ (fun _ _=>a1) a1.side;cbv) | refine W6 ?_ | ((with_reducible first | refine hA.Off fun b hb=>?_ | refine hA.Plus fun b hb=>?_ | refine hA.gb _ _ fun vb hvb=>?_);cbv) | ((with_reducible first | refine hA.App ?_ fun zs m hzs hm=>?_ | refine hA.App0 ?_ fun m hm=>?_ | refine hA.Sto ?_ fun ds hds=>?_ | refine hA.Appv ?_ fun bb m ds hbb hm hds=>?_ | refine hA.Vcut ?_ fun cs hcs=>?_ | refine hA.Appw ?_ fun bb m ds hbb hm hds=>?_ | refine hA.Sapp ?_ fun sl hsl=>?_);rotate_left;cbv) | refine WL ?_ | fail
 all_goals try simp only [hA.sm,n_cast] at *
 all_goals first
  | omega
  | trivial
  | exact ui_fin hA rfl rfl rfl
  | exact ⟨rfl,trivial⟩
  | (simp only [List.length_cons,List.length_nil];omega))
theorem ui6 (T M:Int) (Ex:List (Int×Int)) (L R:Int) (x xe ye:List (List E)) (xv:List (List E)) (hxe:xe=Ex.map orow) (hel:Ex.length<=1048576) (q:Nat) (i d w:Int) (hi:0<=i/\i<x.length) (es:List (List E)) (n:Nat) (hn:n=es.length) (hlen:n<=1000000) (qa:Nat) (es1:List (List E)) (n1:Nat) (hn1:n1=es1.length) (p1:Int) (hb1:n1<=1000000) (es4:List (List E)) (n4:Nat) (hn4:n4=es4.length) (he4:es4=es1++ [frE 8 0 0 0 (.fs 0 []) (.fs 0 []) p1 0]) (d2:Int) (hd2:d2=es1.length) (wl w2:Int) (hw2:w2=w+wl) (hw:0<=w/\w<=1000/\0<=wl/\wl<=1000) (hL:(0<=L/\L<xv.length)/\xv.getD L.toNat []= [E.int wl]) (qc:Nat) (es3:List (List E)) (n3:Nat) (hn3:n3=es3.length) (p3:Int) (hb3:n3<=1000000) (es2:List (List E)) (n2:Nat) (hn2:n2=es2.length) (p2:Int) (hp2:p2=es3.length) (he2:es2=es3++ [frE 5 0 0 w2 (.fs 0 []) (.fs 0 []) p1 p3]) (q1:x.getD i.toNat []= [E.int 6,E.int T,E.int M,E.sl xe,E.sl ye,E.int L,E.int R]) (h1:UI (.sl x) (.sl xv) q L d w es n qa es1 n1 p1) (h2:UI (.sl x) (.sl xv) qa R d2 w2 es4 n4 qc es3 n3 p3):
  UI (.sl x) (.sl xv) q i d w es n qc es2 n2 p2:=procOf mixed p39 ui_side fun A P hA hP=>(by
 have k1:A.eq 6 1=false:=hA.eq _ _
 have k2:A.eq 6 2=false:=hA.eq _ _
 have k3:A.eq 6 3=false:=hA.eq _ _
 have k4:A.eq 6 4=false:=hA.eq _ _
 have k9:A.eq 6 9=false:=hA.eq _ _
 have k5:A.eq 6 5=false:=hA.eq _ _
 have k10:A.eq 6 10=false:=hA.eq _ _
 have k7:A.eq 6 7=false:=hA.eq _ _
 have k8:A.eq 6 8=false:=hA.eq _ _
 have hl4:es4.length=es1.length+1:=by rw [he4];simp
 obtain ⟨pL,qL⟩:=hL
 have hqw:w2=A.add w wl:=by rw [hA.add];omega
 have a1:=ua (.sl x) (.sl xv) es1 n1 hn1 (by omega) 8 0 0 0 (.fs 0 []) (.fs 0 []) p1 0 es4 n4 hn4 he4 d2 hd2
 have a2:=ua (.sl x) (.sl xv) es3 n3 hn3 (by omega) 5 0 0 w2 (.fs 0 []) (.fs 0 []) p1 p3 es2 n2 hn2 he2 p2 hp2
 cbv
 repeat' first | exact W1 | (simp only [k1,k2,k3,k4,k9,k5,k10,k7,k8,<-hqw];cbv) | refine WA ?_ ?_ | with_reducible intro hcc | refine WS ?_ | (refine hA.RowE hi q1 ?_;cbv) | ((with_reducible refine hA.st [_,_,_,_,_,_,_] _ _ _ _ ⟨?_,fun ds hds=>?_⟩);rotate_left;subst hds;cbv) | ((with_reducible show A.call _ _ _ _ _ 39 _ _ _);have hc:=h1;refine callK_pr hA hP [0,1,2] (by rfl) (by exact ⟨rfl,rfl,rfl,trivial⟩) (Wks.refl _) ?_ (fun _ _=>hc) hc.side;cbv) | ((with_reducible show A.call _ _ _ _ _ 39 _ _ _);have hc:=h2;refine callK_pr hA hP [0,1,2] (by rfl) (by exact ⟨rfl,rfl,rfl,trivial⟩) (Wks.refl _) ?_ (fun _ _=>hc) hc.side;cbv) | ((with_reducible show A.call _ _ _ _ _ 88 _ _ _);refine callK_pr hA hP [1,2] (by rfl) (by exact ⟨rfl,rfl,trivial⟩) (wk2 sub2) ?_ (fun _ _=>a1) a1.side;cbv) | ((with_reducible show A.call _ _ _ _ _ 88 _ _ _);refine callK_pr hA hP [1,2] (by rfl) (by exact ⟨rfl,rfl,trivial⟩) (wk2 sub2) ?_ (fun _ _=>a2) a2.side;cbv) | (refine hA.RowE pL qL ?_;cbv) | refine W6 ?_ | ((with_reducible first | refine hA.Off fun b hb=>?_ | refine hA.Plus fun b hb=>?_ | refine hA.gb _ _ fun vb hvb=>?_);cbv) | ((with_reducible first | refine hA.App ?_ fun zs m hzs hm=>?_ | refine hA.App0 ?_ fun m hm=>?_ | refine hA.Sto ?_ fun ds hds=>?_ | refine hA.Appv ?_ fun bb m ds hbb hm hds=>?_ | refine hA.Vcut ?_ fun cs hcs=>?_ | refine hA.Appw ?_ fun bb m ds hbb hm hds=>?_ | refine hA.Sapp ?_ fun sl hsl=>?_);rotate_left;cbv) | refine WL ?_ | fail
 all_goals try simp only [hA.sm,n_cast] at *
 all_goals first
  | omega
  | trivial
  | exact ui_fin hA rfl rfl rfl
  | exact ⟨rfl,trivial⟩
  | (simp only [List.length_cons,List.length_nil];omega))
theorem ui7 (T M:Int) (Ex:List (Int×Int)) (L R:Int) (x xe ye:List (List E)) (xv:List (List E)) (hxe:xe=Ex.map orow) (hel:Ex.length<=1048576) (q:Nat) (i d w:Int) (hi:0<=i/\i<x.length) (es:List (List E)) (n:Nat) (hn:n=es.length) (hlen:n<=1000000) (qa:Nat) (es1:List (List E)) (n1:Nat) (hn1:n1=es1.length) (p1:Int) (hb1:n1<=1000000) (es4:List (List E)) (n4:Nat) (hn4:n4=es4.length) (he4:es4=es1++ [frE 8 0 0 0 (.fs 0 []) (.fs 0 []) p1 0]) (d2:Int) (hd2:d2=es1.length) (wl w2:Int) (hw2:w2=w+wl) (hw:0<=w/\w<=1000/\0<=wl/\wl<=1000) (hL:(0<=L/\L<xv.length)/\xv.getD L.toNat []= [E.int wl]) (qc:Nat) (es3:List (List E)) (n3:Nat) (hn3:n3=es3.length) (p3:Int) (hb3:n3<=1000000) (es2:List (List E)) (n2:Nat) (hn2:n2=es2.length) (p2:Int) (hp2:p2=es3.length) (he2:es2=es3++ [frE 6 0 0 w2 (eX (qc,Ex)) (.fs 0 []) p1 p3]) (q1:x.getD i.toNat []= [E.int 7,E.int T,E.int M,E.sl xe,E.sl ye,E.int L,E.int R]) (h1:UI (.sl x) (.sl xv) q L d w es n qa es1 n1 p1) (h2:UI (.sl x) (.sl xv) qa R d2 w2 es4 n4 qc es3 n3 p3):
  UI (.sl x) (.sl xv) q i d w es n (qc+1) es2 n2 p2:=procOf mixed p39 ui_side fun A P hA hP=>(by
 have k1:A.eq 7 1=false:=hA.eq _ _
 have k2:A.eq 7 2=false:=hA.eq _ _
 have k3:A.eq 7 3=false:=hA.eq _ _
 have k4:A.eq 7 4=false:=hA.eq _ _
 have k9:A.eq 7 9=false:=hA.eq _ _
 have k5:A.eq 7 5=false:=hA.eq _ _
 have k10:A.eq 7 10=false:=hA.eq _ _
 have k7:A.eq 7 7=true:=hA.eq _ _
 have k8:A.eq 7 8=false:=hA.eq _ _
 have hl4:es4.length=es1.length+1:=by rw [he4];simp
 obtain ⟨pL,qL⟩:=hL
 have hqw:w2=A.add w wl:=by rw [hA.add];omega
 have a1:=ua (.sl x) (.sl xv) es1 n1 hn1 (by omega) 8 0 0 0 (.fs 0 []) (.fs 0 []) p1 0 es4 n4 hn4 he4 d2 hd2
 obtain ⟨X,hX⟩: ∃X,X=eX (qc,Ex):=⟨_,rfl⟩
 obtain ⟨qb,hqb⟩: ∃q,q=qc+1:=⟨_,rfl⟩
 have h259:=n259 qc Ex xe hxe (by rw [hxe,List.length_map];exact hel)
 rw [<-hX,<-hqb] at h259
 rw [<-hX] at he2
 rw [<-hqb]
 have a2:=ua (.sl x) (.sl xv) es3 n3 hn3 (by omega) 6 0 0 w2 X (.fs 0 []) p1 p3 es2 n2 hn2 he2 p2 hp2
 clear hX hqb
 cbv
 repeat' first | exact W1 | (simp only [k1,k2,k3,k4,k9,k5,k10,k7,k8,<-hqw];cbv) | refine WA ?_ ?_ | with_reducible intro hcc | refine WS ?_ | (refine hA.RowE hi q1 ?_;cbv) | ((with_reducible refine hA.st [_,_,_,_,_,_,_] _ _ _ _ ⟨?_,fun ds hds=>?_⟩);rotate_left;subst hds;cbv) | ((with_reducible show A.call _ _ _ _ _ 39 _ _ _);have hc:=h1;refine callK_pr hA hP [0,1,2] (by rfl) (by exact ⟨rfl,rfl,rfl,trivial⟩) (Wks.refl _) ?_ (fun _ _=>hc) hc.side;cbv) | ((with_reducible show A.call _ _ _ _ _ 39 _ _ _);have hc:=h2;refine callK_pr hA hP [0,1,2] (by rfl) (by exact ⟨rfl,rfl,rfl,trivial⟩) (Wks.refl _) ?_ (fun _ _=>hc) hc.side;cbv) | ((with_reducible show A.call _ _ _ _ _ 89 _ _ _);have hc:=h259;refine callK_pr hA hP [0] (by rfl) (by exact ⟨rfl,trivial⟩) (Wks.refl _) ?_ (fun _ _=>hc) hc.side;cbv) | ((with_reducible show A.call _ _ _ _ _ 88 _ _ _);refine callK_pr hA hP [1,2] (by rfl) (by exact ⟨rfl,rfl,trivial⟩) (wk2 sub2) ?_ (fun _ _=>a1) a1.side;cbv) | ((with_reducible show A.call _ _ _ _ _ 88 _ _ _);refine callK_pr hA hP [1,2] (by rfl) (by exact ⟨rfl,rfl,trivial⟩) (wk2 sub1) ?_ (fun _ _=>a2) a2.side;cbv) | (refine hA.RowE pL qL ?_;cbv) | refine W6 ?_ | ((with_reducible first | refine hA.Off fun b hb=>?_ | refine hA.Plus fun b hb=>?_ | refine hA.gb _ _ fun vb hvb=>?_);cbv) | ((with_reducible first | refine hA.App ?_ fun zs m hzs hm=>?_ | refine hA.App0 ?_ fun m hm=>?_ | refine hA.Sto ?_ fun ds hds=>?_ | refine hA.Appv ?_ fun bb m ds hbb hm hds=>?_ | refine hA.Vcut ?_ fun cs hcs=>?_ | refine hA.Appw ?_ fun bb m ds hbb hm hds=>?_ | refine hA.Sapp ?_ fun sl hsl=>?_);rotate_left;cbv) | refine WL ?_ | fail
 all_goals try simp only [hA.sm,n_cast] at *
 all_goals first
  | omega
  | trivial
  | exact ui_fin hA rfl rfl rfl
  | exact ⟨rfl,trivial⟩
  | (simp only [List.length_cons,List.length_nil];omega))
theorem ui8 (T M:Int) (Ex:List (Int×Int)) (L R:Int) (x xe ye:List (List E)) (xv:List (List E)) (hxe:xe=Ex.map orow) (hel:Ex.length<=1048576) (q:Nat) (i d w:Int) (hi:0<=i/\i<x.length) (es:List (List E)) (n:Nat) (hn:n=es.length) (hlen:n<=1000000) (qa:Nat) (es1:List (List E)) (n1:Nat) (hn1:n1=es1.length) (p1:Int) (hb1:n1<=1000000) (es4:List (List E)) (n4:Nat) (hn4:n4=es4.length) (he4:es4=es1++ [frE 8 0 0 0 (.fs 0 []) (.fs 0 []) p1 0]) (d2:Int) (hd2:d2=es1.length) (wl w2:Int) (hw2:w2=w+wl) (hw:0<=w/\w<=1000/\0<=wl/\wl<=1000) (hL:(0<=L/\L<xv.length)/\xv.getD L.toNat []= [E.int wl]) (qc:Nat) (es3:List (List E)) (n3:Nat) (hn3:n3=es3.length) (p3:Int) (hb3:n3<=1000000) (es2:List (List E)) (n2:Nat) (hn2:n2=es2.length) (p2:Int) (hp2:p2=es3.length) (he2:es2=es3++ [frE 7 0 M w2 (eX (qc,Ex)) (.fs 0 []) p1 p3]) (q1:x.getD i.toNat []= [E.int 8,E.int T,E.int M,E.sl xe,E.sl ye,E.int L,E.int R]) (h1:UI (.sl x) (.sl xv) q L d w es n qa es1 n1 p1) (h2:UI (.sl x) (.sl xv) qa R d2 w2 es4 n4 qc es3 n3 p3):
  UI (.sl x) (.sl xv) q i d w es n (qc+1) es2 n2 p2:=procOf mixed p39 ui_side fun A P hA hP=>(by
 have k1:A.eq 8 1=false:=hA.eq _ _
 have k2:A.eq 8 2=false:=hA.eq _ _
 have k3:A.eq 8 3=false:=hA.eq _ _
 have k4:A.eq 8 4=false:=hA.eq _ _
 have k9:A.eq 8 9=false:=hA.eq _ _
 have k5:A.eq 8 5=false:=hA.eq _ _
 have k10:A.eq 8 10=false:=hA.eq _ _
 have k7:A.eq 8 7=false:=hA.eq _ _
 have k8:A.eq 8 8=true:=hA.eq _ _
 have hl4:es4.length=es1.length+1:=by rw [he4];simp
 obtain ⟨pL,qL⟩:=hL
 have hqw:w2=A.add w wl:=by rw [hA.add];omega
 have a1:=ua (.sl x) (.sl xv) es1 n1 hn1 (by omega) 8 0 0 0 (.fs 0 []) (.fs 0 []) p1 0 es4 n4 hn4 he4 d2 hd2
 obtain ⟨X,hX⟩: ∃X,X=eX (qc,Ex):=⟨_,rfl⟩
 obtain ⟨qb,hqb⟩: ∃q,q=qc+1:=⟨_,rfl⟩
 have h259:=n259 qc Ex xe hxe (by rw [hxe,List.length_map];exact hel)
 rw [<-hX,<-hqb] at h259
 rw [<-hX] at he2
 rw [<-hqb]
 have a2:=ua (.sl x) (.sl xv) es3 n3 hn3 (by omega) 7 0 M w2 X (.fs 0 []) p1 p3 es2 n2 hn2 he2 p2 hp2
 clear hX hqb
 cbv
 repeat' first | exact W1 | (simp only [k1,k2,k3,k4,k9,k5,k10,k7,k8,<-hqw];cbv) | refine WA ?_ ?_ | with_reducible intro hcc | refine WS ?_ | (refine hA.RowE hi q1 ?_;cbv) | ((with_reducible refine hA.st [_,_,_,_,_,_,_] _ _ _ _ ⟨?_,fun ds hds=>?_⟩);rotate_left;subst hds;cbv) | ((with_reducible show A.call _ _ _ _ _ 39 _ _ _);have hc:=h1;refine callK_pr hA hP [0,1,2] (by rfl) (by exact ⟨rfl,rfl,rfl,trivial⟩) (Wks.refl _) ?_ (fun _ _=>hc) hc.side;cbv) | ((with_reducible show A.call _ _ _ _ _ 39 _ _ _);have hc:=h2;refine callK_pr hA hP [0,1,2] (by rfl) (by exact ⟨rfl,rfl,rfl,trivial⟩) (Wks.refl _) ?_ (fun _ _=>hc) hc.side;cbv) | ((with_reducible show A.call _ _ _ _ _ 89 _ _ _);have hc:=h259;refine callK_pr hA hP [0] (by rfl) (by exact ⟨rfl,trivial⟩) (Wks.refl _) ?_ (fun _ _=>hc) hc.side;cbv) | ((with_reducible show A.call _ _ _ _ _ 88 _ _ _);refine callK_pr hA hP [1,2] (by rfl) (by exact ⟨rfl,rfl,trivial⟩) (wk2 sub2) ?_ (fun _ _=>a1) a1.side;cbv) | ((with_reducible show A.call _ _ _ _ _ 88 _ _ _);refine callK_pr hA hP [1,2] (by rfl) (by exact ⟨rfl,rfl,trivial⟩) (wk2 sub1) ?_ (fun _ _=>a2) a2.side;cbv) | (refine hA.RowE pL qL ?_;cbv) | refine W6 ?_ | ((with_reducible first | refine hA.Off fun b hb=>?_ | refine hA.Plus fun b hb=>?_ | refine hA.gb _ _ fun vb hvb=>?_);cbv) | ((with_reducible first | refine hA.App ?_ fun zs m hzs hm=>?_ | refine hA.App0 ?_ fun m hm=>?_ | refine hA.Sto ?_ fun ds hds=>?_ | refine hA.Appv ?_ fun bb m ds hbb hm hds=>?_ | refine hA.Vcut ?_ fun cs hcs=>?_ | refine hA.Appw ?_ fun bb m ds hbb hm hds=>?_ | refine hA.Sapp ?_ fun sl hsl=>?_);rotate_left;cbv) | refine WL ?_ | fail
 all_goals try simp only [hA.sm,n_cast] at *
 all_goals first
  | omega
  | trivial
  | exact ui_fin hA rfl rfl rfl
  | exact ⟨rfl,trivial⟩
  | (simp only [List.length_cons,List.length_nil];omega))
end Go.Proofs.YtfplalbognalkaaGreat.Ab
/- What an expression asks, by the program. -/
namespace Go.Proofs.YtfplalbognalkaaGreat.Ab
open Go
end Go.Proofs.YtfplalbognalkaaGreat.Ab
/- The program's simplified plans, with numbers: the plain law. -/
namespace Go.Proofs.YtfplalbognalkaaGreat.Ab
open Go
def xNums (x:Nx):List Nat:=if x.2= [] then [] else [x.1]
def xsNums (x:Nxs):List Nat:=if x.2= [] then [] else x.1::x.2.flatMap xNums
def fNums (n:Nf):List Nat:=xNums n.Ex++xsNums n.Exs
theorem numss_orow: ∀l:List (Int×Int),numss (l.map orow)=some []
 | []=>rfl
 | p::l=>by
  simp only [List.map_cons,numss,numss_orow l]
  rfl
theorem eX_nums (x:Nx):(eX x).nums=some (xNums x):=by
 obtain ⟨q,l⟩:=x
 unfold eX xNums
 cases l with
 | nil=>rfl
 | cons p l=>
  rw [if_neg (by simp),NS.nums_ne (by simp),numss_orow]
  rfl
theorem xrow_nums: ∀L:List Nx,numss (L.map xrow)=some (L.flatMap xNums)
 | []=>rfl
 | x::L=>by
  simp only [List.map_cons,numss,numsr,eX_nums,xrow_nums L,List.flatMap_cons,List.append_nil]
theorem eXs_nums (x:Nxs):(eXs x).nums=some (xsNums x):=by
 obtain ⟨q,L⟩:=x
 unfold eXs xsNums
 cases L with
 | nil=>rfl
 | cons p l=>
  rw [if_neg (by simp),NS.nums_ne (by simp),xrow_nums]
  rfl
theorem nfr_nums: ∀L:List Nf,numss (L.map nfr)=some (L.map fNums).flatten
 | []=>rfl
 | n::L=>by
  simp only [List.map_cons,numss,numsr,eX_nums,eXs_nums,nfr_nums L,E.nums,List.flatten_cons,List.append_nil,List.nil_append,fNums]
def NumOk (L:List Nf) (q:Nat):Prop:=(L.map fNums).flatten.Nodup/\ ∀n∈(L.map fNums).flatten,n<q
theorem eFs_nums {L:List Nf} {q i:Nat} (h:NumOk L q) (hi:q<=i): ∃ns,(eFs i L).nums=some ns/\ns.Nodup:=by
 unfold eFs
 cases L with
 | nil=>exact ⟨[],rfl,List.nodup_nil⟩
 | cons n L=>
  refine ⟨i::((n::L).map fNums).flatten,?_,List.nodup_cons.2 ⟨fun hm=>?_,h.1⟩⟩
  ·rw [NS.nums_ne (by simp),nfr_nums]
   rfl
  ·have:=h.2 i hm;omega
theorem NumOk.set {L:List Nf} {q q' j:Nat} {n:Nf} (h:NumOk L q) (hq:q<=q') (nd:(fNums n).Nodup) (hb: ∀k∈fNums n,(∃m,L[j]?=some m/\k∈fNums m)\/(q<=k/\k<q')):NumOk (L.set j n) q':=by
 unfold NumOk
 rw [List.map_set]
 refine ⟨nodup_set (N:=q) h.1 nd (fun k hk=>?_) h.2,fun k hk=>?_⟩
 ·rcases hb k hk with ⟨m,h1,h2⟩ | h1
  ·refine .inl ?_
   rw [List.getD,List.getElem?_map,h1]
   exact h2
  ·exact .inr h1.1
 ·rcases mem_set_flat hk with hk | hk
  ·rcases hb k hk with ⟨m,h1,h2⟩ | h1
   ·have:=h.2 k (List.mem_flatten.2 ⟨fNums m,List.mem_map.2 ⟨m,List.mem_of_getElem? h1,rfl⟩,h2⟩)
    omega
   ·exact h1.2
  ·have:=h.2 k hk;omega
theorem numL_x (q:Nat): ∀l:List (List (Int×Int)),∃ns,(numL nX one1 q l).flatMap xNums=ns/\ns.Nodup/\ ∀k∈ns,q<=k/\k<q+l.length
 | []=>⟨[],rfl,List.nodup_nil,fun k h=>by cases h⟩
 | e::l=>by
  obtain ⟨ns,h1,h2,h3⟩:=numL_x (q+1) l
  refine ⟨xNums (nX q e)++ns,?_,?_,?_⟩
  ·rw [numL,List.flatMap_cons,show q+one1 e=q+1 from rfl,h1]
  ·rw [List.nodup_append]
   refine ⟨?_,h2,fun a ha b hb=>?_⟩
   ·unfold xNums;split <;>simp
   ·have ha:a=q:=by
     unfold xNums at ha
     split at ha
     ·cases ha
     ·simpa [nX] using ha
    have:=h3 b hb
    omega
  ·intro k hk
   rcases List.mem_append.1 hk with ha | hb
   ·have ha:k=q:=by
     unfold xNums at ha
     split at ha
     ·cases ha
     ·simpa [nX] using ha
    simp only [List.length_cons]
    omega
   ·have:=h3 k hb
    simp only [List.length_cons]
    omega
theorem nXs_nums (q:Nat) (l:List (List (Int×Int))):(xsNums (nXs q l)).Nodup/\ ∀k∈xsNums (nXs q l),q<=k/\k<q+l.length+1:=by
 obtain ⟨ns,h1,h2,h3⟩:=numL_x q l
 unfold xsNums nXs
 simp only
 split
 ·exact ⟨List.nodup_nil,fun k h=>by cases h⟩
 ·rw [h1]
  refine ⟨List.nodup_cons.2 ⟨fun h=>by have:=h3 _ h;omega,h2⟩,fun k hk=>?_⟩
  rcases List.mem_cons.1 hk with rfl | hk
  ·omega
  ·have:=h3 k hk;omega
theorem nF_nums (q:Nat) (d:Fd):(fNums (nF q d)).Nodup/\ ∀k∈fNums (nF q d),q<=k/\k<q+sF d:=by
 obtain ⟨h1,h2⟩:=nXs_nums (q+1) d.Exs
 have h0: ∀k∈xNums (nX q d.Ex),k=q:=fun k hk=>by
  unfold xNums at hk
  split at hk
  ·cases hk
  ·simpa [nX] using hk
 unfold fNums nF sF
 simp only
 refine ⟨List.nodup_append.2 ⟨?_,h1,fun a ha b hb=>?_⟩,fun k hk=>?_⟩
 ·unfold xNums;split <;>simp
 ·have:=h0 a ha;have:=h2 b hb;omega
 ·rcases List.mem_append.1 hk with hk | hk
  ·have:=h0 k hk;omega
  ·have:=h2 k hk;omega
theorem nF_d (q:Nat) (d:Fd):(nF q d).d=d:=by
 obtain ⟨K,T,M,W,Ex,Exs,L,R⟩:=d
 simp only [nF,Nf.d,nX,nXs,Fd.mk.injEq,true_and,and_true]
 have: ∀(q:Nat) (l:List (List (Int×Int))),(numL nX one1 q l).map Prod.snd=l:=fun q l=>by
  induction l generalizing q with
  | nil=>rfl
  | cons a l ih=>rw [numL,List.map_cons,ih];rfl
 exact this _ _
end Go.Proofs.YtfplalbognalkaaGreat.Ab
/- The code of functions over trees. -/
namespace Go.Proofs.YtfplalbognalkaaGreat.Ab
open Go
end Go.Proofs.YtfplalbognalkaaGreat.Ab
/- The laws' helpers over trees: measured, copied, alike. -/
namespace Go.Proofs.YtfplalbognalkaaGreat.Ab
open Go
def cI (r:List Int):Int:=r.length
def cN (d:Nd):Int:=d.S.length+d.T.length+cI d.Ks
end Go.Proofs.YtfplalbognalkaaGreat.Ab
/- Kinds of nodes, and of their kids. -/
namespace Go.Proofs.YtfplalbognalkaaGreat.Ab
open Go
end Go.Proofs.YtfplalbognalkaaGreat.Ab
/- Flat plans: kinds. -/
namespace Go.Proofs.YtfplalbognalkaaGreat.Ab
open Go
end Go.Proofs.YtfplalbognalkaaGreat.Ab
/- Flat plans: the fields of a node. -/
namespace Go.Proofs.YtfplalbognalkaaGreat.Ab
open Go
end Go.Proofs.YtfplalbognalkaaGreat.Ab
/- Flat plans: the fields of a node, by the specification. -/
namespace Go.Proofs.YtfplalbognalkaaGreat.Ab
open Go
end Go.Proofs.YtfplalbognalkaaGreat.Ab
/- Flat plans: the width of a node, by the specification. -/
namespace Go.Proofs.YtfplalbognalkaaGreat.Ab
open Go
end Go.Proofs.YtfplalbognalkaaGreat.Ab
/- Flat plans: expressions asked with a function. -/
namespace Go.Proofs.YtfplalbognalkaaGreat.Ab
open Go
end Go.Proofs.YtfplalbognalkaaGreat.Ab
/- Flat plans: the width of a node, by the program. -/
namespace Go.Proofs.YtfplalbognalkaaGreat.Ab
open Go
end Go.Proofs.YtfplalbognalkaaGreat.Ab
/- Flat plans: the widths of all nodes. -/
namespace Go.Proofs.YtfplalbognalkaaGreat.Ab
open Go
end Go.Proofs.YtfplalbognalkaaGreat.Ab
/- The specification's simplified plans: its pieces, walked. -/
namespace Go.Proofs.YtfplalbognalkaaGreat.Ab
open Go
def c81:F:=⟨8, [(.tmp 2)],(.seq (.reg [ZA 2 (.mov (.c .zs))]) (.seq (.reg [ZA 4 (.lit 2 [(.v (.int .i64 0)),(.v (.int .i64 0))] 0 []),ZM 3 4]) (.seq (.reg [ZM 5 3,ZM 6 0,ZA 7 (.app 2 5 6),ZM 2 7]) .ret)))⟩
theorem p81:prepF Tryz.prog 81=some c81:=by kernel_rfl
def c83:F:=⟨21, [(.tmp 2)],(.seq (.reg [ZA 2 (.mov (.c .zs))]) (.seq (.reg [ZA 5 (.lit 1 [(.sl [])] 0 []),ZM 3 5]) (.seq (.seq (.reg [ZA 4 (.mov (.c (.int 0)))]) (.block 0 (.loop (.seq (.seq (.reg [ZM 6 4,ZM 7 0,ZA 8 (.lenl 7),ZA 9 (.bin .lss 6 8)]) (.cond 9 .skip (.exit 0))) (.seq (.block 1 (.reg [ZM 12 3,ZM 13 0,ZM 14 4,ZA 15 (.iadr none 1 13 14),ZL 16 15,ZC 17 81 [16],ZA 18 (.lit 1 [(.sl [])] 1 [(0,17)]),ZA 19 (.app 1 12 18),ZM 3 19])) (.reg [ZM 10 4,ZA 11 (.bin .add 10 (.c (.int 1))),ZM 4 11])))))) (.seq (.reg [ZM 20 3,ZM 2 20]) .ret))))⟩
theorem p83:prepF Tryz.prog 83=some c83:=by kernel_rfl
def c82:F:=⟨18, [(.tmp 2)],(.seq (.reg [ZA 2 (.mov (.c .zs))]) (.seq (.reg [ZA 5 (.lit 1 [(.sl [])] 0 []),ZM 3 5]) (.seq (.seq (.reg [ZA 4 (.mov (.c (.int 0)))]) (.block 0 (.loop (.seq (.seq (.reg [ZM 6 4,ZM 7 0,ZA 8 (.bin .lss 6 7)]) (.cond 8 .skip (.exit 0))) (.seq (.block 1 (.reg [ZM 11 3,ZM 12 4,ZA 13 (.build [(.int 0),(.int 0)] [(0,(1,(.c (.int 3)))),(1,(1,12))]),ZA 14 (.lit 2 [(.v (.int .i64 0)),(.v (.int .i64 0))] 1 [(0,13)]),ZA 15 (.lit 1 [(.sl [])] 1 [(0,14)]),ZA 16 (.app 1 11 15),ZM 3 16])) (.reg [ZM 9 4,ZA 10 (.bin .add 9 (.c (.int 1))),ZM 4 10])))))) (.seq (.reg [ZM 17 3,ZM 2 17]) .ret))))⟩
theorem p82:prepF Tryz.prog 82=some c82:=by kernel_rfl
theorem ok81 (l:List (Int×Int)) (x:List (List E)) (hx:x=l.map orow) (hlen:x.length<=1048576):Plain Tryz.prog 81 [.e (.sl x)] (.e (.sl x)):=okOf mixed p81 fun A P hA hP=>(by
 have hal:allLen 2 x:=by rw [hx];exact allLen_iff.2 (fun e h=>by obtain ⟨p,_,rfl⟩:=List.mem_map.1 h;rfl)
 cbv
 repeat' first | exact W1 | refine WA ?_ ?_ | with_reducible intro hcc | refine WS ?_ | refine W6 ?_ | ((with_reducible first | refine hA.App ?_ fun zs m hzs hm=>?_ | refine hA.App0 ?_ fun m hm=>?_ | refine hA.Appv ?_ fun bb m ds hbb hm hds=>?_ | refine hA.Vcut ?_ fun cs hcs=>?_ | refine hA.Appw ?_ fun bb m ds hbb hm hds=>?_);rotate_left;cbv) | refine WL ?_ | fail
 all_goals try simp only [hA.sm,n_cast] at *
 all_goals first
  | omega
  | exact hal
  | exact ⟨by omega,hal⟩
  | rfl)
theorem ok83 (l:List (List (Int×Int))) (es:List (List E)) (he:es=l.map orr) (hlen:es.length<=1048576) (hb2: ∀d∈l,d.length<=1048576):Plain Tryz.prog 83 [.e (.sl es)] (.e (.sl es)):=okOf mixed p83 fun A P hA hP=>(by
 have hl1:es.length=l.length:=by rw [he];simp
 cbv
 repeat' first | exact W1 | refine WA ?_ ?_ | with_reducible intro hcc | refine WS ?_ | refine W6 ?_ | ((with_reducible first | refine hA.Len fun z hz hb=>?_ | refine hA.Off fun b hb=>?_);cbv) | ((with_reducible first | refine hA.App ?_ fun zs m hzs hm=>?_ | refine hA.App0 ?_ fun m hm=>?_ | refine hA.Appv ?_ fun bb m ds hbb hm hds=>?_ | refine hA.Vcut ?_ fun cs hcs=>?_ | refine hA.Appw ?_ fun bb m ds hbb hm hds=>?_ | refine hA.Sapp ?_ fun sl hsl=>?_);rotate_left;cbv) | refine WL ?_ | fail
 all_goals try simp only [hA.sm,n_cast] at *
 refine hA.loopI (fun n s=> ∃(i:Int) (xs:List (List E)),0<=i/\n+i=es.length/\xs=es.take i.toNat/\
   s=⟨[(4,.int i),(3,.own 0 xs),(0,.e (.sl es))], [.front xs.length 1]⟩) es.length _
  ((Weak.zown 3 1 rfl).trans (Weak.keep (env':= [(4,.int 0),(3,.own 0 []),(0,.e (.sl es))]) ⟨rfl,rfl,rfl,trivial⟩))
  ⟨0, [],by omega,by omega,rfl,rfl⟩ ?_
 rintro n s K ⟨i,xs,h0,h1,h2,rfl⟩ hK
 obtain ⟨k,hk⟩: ∃k,k=xs.length:=⟨_,rfl⟩
 have hxl:xs.length=i.toNat:=by rw [h2,List.length_take];omega
 rw [<-hk]
 by_cases hin:(0:Int)<=i/\i<es.length
 ·obtain ⟨r1,e1,q1⟩:=row_at he hin
  obtain ⟨x1,hx1⟩: ∃x,x=r1.map orow:=⟨_,rfl⟩
  have e1:es.getD i.toNat []= [E.sl x1]:=e1.trans (by rw [hx1])
  have h296:=ok81 r1 x1 hx1 (by rw [hx1,List.length_map];exact hb2 r1 (List.mem_of_getElem? q1))
  have hrow:es.take (i+1).toNat=xs++ [[E.sl x1]]:=by
   rw [show (i+1).toNat=i.toNat+1 by omega,List.take_add_one,<-h2,he,List.getElem?_map,q1,hx1]
   rfl
  clear he
  cbv
  repeat' first | exact W1 | refine WA ?_ ?_ | with_reducible intro hcc | refine WS ?_ | refine WK hA hP ?_ | (refine hA.RowE hin e1 ?_;cbv) | refine W6 ?_ | ((with_reducible first | refine hA.Len fun z hz hb=>?_ | refine hA.Off fun b hb=>?_);cbv) | ((with_reducible first | refine hA.App ?_ fun zs m hzs hm=>?_ | refine hA.App0 ?_ fun m hm=>?_ | refine hA.Appv ?_ fun bb m ds hbb hm hds=>?_ | refine hA.Vcut ?_ fun cs hcs=>?_ | refine hA.Appw ?_ fun bb m ds hbb hm hds=>?_ | refine hA.Sapp ?_ fun sl hsl=>?_);rotate_left;cbv) | refine WL ?_ | fail
  all_goals try simp only [hA.sm,n_cast] at *
  all_goals first
   | omega
   | (rw [hk];done)
   | exact ⟨rfl,trivial⟩
   | (simp only [List.length_cons,List.length_nil];omega)
   | (have hz2:zs=es.take (i+1).toNat:=by rw [hzs,hrow]
      refine hK _ (n-1) _ (by omega) (Weak.ren (l0:= []) [0] (fun t=> [(4,.int (i+1)),(3,.own (t 0) zs),(0,.e (.sl es))]) (fun _=> [.front zs.length 1]) rfl
         ⟨.inl rfl,.inl rfl,.inl rfl,trivial⟩ ⟨by rw [<-hm];rfl,trivial⟩ ⟨fun t=>rfl,rfl,fun t=>rfl,by intro o ho;rw [List.mem_singleton] at ho;subst ho;rfl⟩)
        ⟨i+1,zs,by omega,by omega,hz2,rfl⟩)
   | (clear hK;simp at *;omega)
 ·have hxe:xs=es:=by rw [h2];exact List.take_of_length_le (by omega)
  clear hK h2
  cbv
  repeat' first | exact W1 | refine WA ?_ ?_ | with_reducible intro hcc | refine WS ?_ | (exfalso;simp only [hA.lt,hA.sub,decide_eq_true_eq,decide_eq_false_iff_not,n_cast] at *;omega) | refine W6 ?_ | ((with_reducible first | refine hA.Len fun z hz hb=>?_ | refine hA.Off fun b hb=>?_);cbv) | ((with_reducible first | refine hA.App ?_ fun zs m hzs hm=>?_ | refine hA.App0 ?_ fun m hm=>?_ | refine hA.Appv ?_ fun bb m ds hbb hm hds=>?_ | refine hA.Vcut ?_ fun cs hcs=>?_ | refine hA.Appw ?_ fun bb m ds hbb hm hds=>?_ | refine hA.Sapp ?_ fun sl hsl=>?_);rotate_left;cbv) | refine WL ?_ | fail
  all_goals try simp only [hA.sm,n_cast] at *
  all_goals first
   | (rw [hxe])
   | omega)
theorem colsE_len (w:Int):(colsE w).length=w.toNat:=by simp [colsE]
theorem colsE_get (w:Int) (i:Nat) (h:i<w.toNat):(colsE w)[i]?=some (colE i):=by
 rw [colsE,List.getElem?_map,List.getElem?_range h]
 rfl
theorem own_side {az:List E} {es:List (List E)} {n k:Nat} :Side (fun _=>az.map .e) (fun _=> []) (fun t=> .own (t 0) es) (fun _=> [.front n k]):=
 ⟨fun t=>by rw [rens_e],lts_e _ _,fun t=>rfl,(by intro o ho;cases ho),fun t=>rfl,fun t=>rfl,Nat.zero_le _⟩
theorem own_fin {A:Ar} (hA:A.Ok) {es:List (List E)} {m k j:Nat} {l':List O} (h0:hpF l' j= .front m k) (hm:m=es.length):A.finv [] l' (.own j es) [.front m k] (.own 0 es):=by
 subst hm
 exact hA.finv _ _ _ _ _ (FinV.ren [j] (fun _=> [.front es.length k]) (fun t=> .own (t 0) es) rfl (.inl rfl) ⟨h0,trivial⟩ (fun t=>rfl) rfl (fun t=>rfl) (by intro o ho;rw [List.mem_singleton] at ho;subst ho;rfl))
theorem ok82 (w:Int) (hw:w<=1000) (es:List (List E)) (he:es=(colsE w).map orr):Proc Tryz.prog 82 (fun _=> [.int w]) (fun _=> []) (fun t=> .own (t 0) es) (fun _=> [.front es.length 1]):=procOf mixed p82 (own_side (az:= [E.int w])) fun A P hA hP=>(by
 have hl1:es.length=w.toNat:=by rw [he,List.length_map,colsE_len]
 obtain ⟨ne,hne⟩: ∃n,n=es.length:=⟨_,rfl⟩
 rw [<-hne]
 cbv
 repeat' first | exact W1 | refine WA ?_ ?_ | with_reducible intro hcc | refine WS ?_ | refine W6 ?_ | ((with_reducible first | refine hA.App ?_ fun zs m hzs hm=>?_ | refine hA.App0 ?_ fun m hm=>?_ | refine hA.Appv ?_ fun bb m ds hbb hm hds=>?_ | refine hA.Vcut ?_ fun cs hcs=>?_ | refine hA.Appw ?_ fun bb m ds hbb hm hds=>?_ | refine hA.Sapp ?_ fun sl hsl=>?_);rotate_left;cbv) | refine WL ?_ | fail
 all_goals try simp only [hA.sm,n_cast] at *
 refine hA.loopI (fun n s=> ∃(i:Int) (xs:List (List E)),0<=i/\i<=w.toNat/\n+i=w.toNat/\xs=es.take i.toNat/\
   s=⟨[(4,.int i),(3,.own 0 xs),(0,.int w)], [.front xs.length 1]⟩) w.toNat _
  ((Weak.zown 3 1 rfl).trans (Weak.keep (env':= [(4,.int 0),(3,.own 0 []),(0,.int w)]) ⟨rfl,rfl,rfl,trivial⟩))
  ⟨0, [],by omega,by omega,by omega,rfl,rfl⟩ ?_
 rintro n s K ⟨i,xs,h0,h9,h1,h2,rfl⟩ hK
 obtain ⟨k,hk⟩: ∃k,k=xs.length:=⟨_,rfl⟩
 have hxl:xs.length=i.toNat:=by rw [h2,List.length_take];omega
 rw [<-hk]
 by_cases hin:i<w
 ·have e1:A.lt i w=true:=by rw [hA.lt];exact decide_eq_true hin
  have hrow:es.take (i+1).toNat=xs++ [[E.sl [[E.int 3,E.int i]]]]:=by
   rw [show (i+1).toNat=i.toNat+1 by omega,List.take_add_one,<-h2,he,List.getElem?_map,colsE_get _ _ (by omega)]
   simp only [Option.map_some,colE,List.map_cons,List.map_nil,show ((i.toNat:Nat):Int)=i by omega]
   rfl
  clear he
  cbv
  repeat' first | exact W1 | (simp only [e1];cbv) | refine WA ?_ ?_ | with_reducible intro hcc | refine WS ?_ | refine W6 ?_ | ((with_reducible first | refine hA.App ?_ fun zs m hzs hm=>?_ | refine hA.App0 ?_ fun m hm=>?_ | refine hA.Appv ?_ fun bb m ds hbb hm hds=>?_ | refine hA.Vcut ?_ fun cs hcs=>?_ | refine hA.Appw ?_ fun bb m ds hbb hm hds=>?_ | refine hA.Sapp ?_ fun sl hsl=>?_);rotate_left;cbv) | refine WL ?_ | fail
  all_goals try simp only [hA.sm,n_cast] at *
  all_goals first
   | omega
   | (rw [hk];done)
   | exact ⟨rfl,trivial⟩
   | (simp only [List.length_cons,List.length_nil];omega)
   | (have hz2:zs=es.take (i+1).toNat:=by rw [hzs,hrow]
      refine hK _ (n-1) _ (by omega) (Weak.ren (l0:= []) [0] (fun t=> [(4,.int (i+1)),(3,.own (t 0) zs),(0,.int w)]) (fun _=> [.front zs.length 1]) rfl
         ⟨.inl rfl,.inl rfl,.inl rfl,trivial⟩ ⟨by rw [<-hm];rfl,trivial⟩ ⟨fun t=>rfl,rfl,fun t=>rfl,by intro o ho;rw [List.mem_singleton] at ho;subst ho;rfl⟩)
        ⟨i+1,zs,by omega,by omega,by omega,hz2,rfl⟩)
   | (clear hK;simp at *;omega)
 ·have hxe:xs=es:=by rw [h2];exact List.take_of_length_le (by omega)
  have e1:A.lt i w=false:=by rw [hA.lt];exact decide_eq_false hin
  clear hK h2
  subst hxe
  have hkn:k=ne:=by omega
  subst hkn
  cbv
  repeat' first | exact W1 | (simp only [e1];cbv) | refine WA ?_ ?_ | with_reducible intro hcc | refine WS ?_ | refine W6 ?_ | ((with_reducible first | refine hA.App ?_ fun zs m hzs hm=>?_ | refine hA.App0 ?_ fun m hm=>?_ | refine hA.Appv ?_ fun bb m ds hbb hm hds=>?_ | refine hA.Vcut ?_ fun cs hcs=>?_ | refine hA.Appw ?_ fun bb m ds hbb hm hds=>?_ | refine hA.Sapp ?_ fun sl hsl=>?_);rotate_left;cbv) | refine WL ?_ | fail
  all_goals try simp only [hA.sm,n_cast] at *
  all_goals first
   | exact own_fin hA rfl hk
   | omega)
end Go.Proofs.YtfplalbognalkaaGreat.Ab
/- The specification's simplified plans: who uses a node, and what it asks. -/
namespace Go.Proofs.YtfplalbognalkaaGreat.Ab
open Go
end Go.Proofs.YtfplalbognalkaaGreat.Ab
/- The specification's simplified plans: what a node asks. -/
namespace Go.Proofs.YtfplalbognalkaaGreat.Ab
open Go
end Go.Proofs.YtfplalbognalkaaGreat.Ab
/- Flat plans: all widths by the program; valid or not. -/
namespace Go.Proofs.YtfplalbognalkaaGreat.Ab
open Go
end Go.Proofs.YtfplalbognalkaaGreat.Ab
/- The specification's simplified plans, whole. -/
namespace Go.Proofs.YtfplalbognalkaaGreat.Ab
open Go
end Go.Proofs.YtfplalbognalkaaGreat.Ab
/- The program's simplified plans, walked: the copies. -/
namespace Go.Proofs.YtfplalbognalkaaGreat.Ab
open Go
theorem uses_take {i:Int} {ns:List Fd} {j:Nat} {d:Fd} (h:ns[j]?=some d):uses i (ns.take (j+1))=uses i (ns.take j)+cuI i d:=by
 rw [List.take_add_one,h,uses_app]
 simp [uses]
theorem numL_app {α β:Type} (f:Nat->α->β) (s:α->Nat): ∀(q:Nat) (a b:List α),numL f s q (a++b)=numL f s q a++numL f s (q+sumN s a) b
 | q, [],b=>by simp [numL,sumN]
 | q,x::a,b=>by simp only [List.cons_append,numL,numL_app f s _ a b,sumN,Nat.add_assoc]
def UsOk (cs:List Int) (rt:Int) (l:List Fd) (n:Nat):Prop:=cs.length=n/\ ∀k:Nat,k<n->cs[k]?=some ((if rt=k then 1 else 0)+uses k l)
theorem UsOk.step {cs:List Int} {rt:Int} {ns:List Fd} {n i:Nat} {d:Fd} (h:UsOk cs rt (ns.take i) n) (hd:ns[i]?=some d) (hL:lef d.K=true->0<=d.L/\d.L<n) (hR:rig d.K=true->0<=d.R/\d.R<n):
  UsOk (let c1:=if lef d.K=true then cs.set d.L.toNat (cs.getD d.L.toNat 0+1) else cs
   if rig d.K=true then c1.set d.R.toNat (c1.getD d.R.toNat 0+1) else c1) rt (ns.take (i+1)) n:=by
 obtain ⟨h1,h2⟩:=h
 simp only
 obtain ⟨c1,hc1⟩: ∃c,c=if lef d.K=true then cs.set d.L.toNat (cs.getD d.L.toNat 0+1) else cs:=⟨_,rfl⟩
 rw [<-hc1]
 have g1:c1.length=n/\ ∀k:Nat,k<n->c1[k]?=some ((if rt=k then 1 else 0)+uses k (ns.take i)+if lef d.K=true/\d.L=k then 1 else 0):=by
  rw [hc1]
  by_cases q:lef d.K=true
  ·rw [if_pos q]
   obtain ⟨l1,l2⟩:=hL q
   refine ⟨by rw [List.length_set];exact h1,fun k hk=>?_⟩
   by_cases e:k=d.L.toNat
   ·subst e
    rw [List.getElem?_set_self (by omega),List.getD,h2 _ hk,if_pos (show lef d.K=true/\d.L=(d.L.toNat:Nat) from ⟨q,by omega⟩)]
    rfl
   ·rw [List.getElem?_set_ne (Ne.symm e),h2 k hk,if_neg (show¬(lef d.K=true/\d.L=k) from fun p=>e (by omega))]
    simp
  ·rw [if_neg q]
   refine ⟨h1,fun k hk=>?_⟩
   rw [h2 k hk,if_neg (show¬(lef d.K=true/\d.L=k) from fun p=>q p.1)]
   simp
 have fin: ∀k:Nat,(if rt=k then (1:Int) else 0)+uses k (ns.take (i+1))=(if rt=k then 1 else 0)+uses k (ns.take i)+(if lef d.K=true/\d.L=k then 1 else 0)+if rig d.K=true/\d.R=k then 1 else 0:=fun k=>by
  rw [uses_take hd,cuI]
  omega
 by_cases q:rig d.K=true
 ·rw [if_pos q]
  obtain ⟨l1,l2⟩:=hR q
  refine ⟨by rw [List.length_set];exact g1.1,fun k hk=>?_⟩
  rw [fin]
  by_cases e:k=d.R.toNat
  ·subst e
   rw [List.getElem?_set_self (by omega),List.getD,g1.2 _ hk,if_pos (show rig d.K=true/\d.R=(d.R.toNat:Nat) from ⟨q,by omega⟩)]
   rfl
  ·rw [List.getElem?_set_ne (Ne.symm e),g1.2 k hk,if_neg (show¬(rig d.K=true/\d.R=k) from fun p=>e (by omega))]
   simp
 ·rw [if_neg q]
  refine ⟨g1.1,fun k hk=>?_⟩
  rw [fin,g1.2 k hk,if_neg (show¬(rig d.K=true/\d.R=k) from fun p=>q p.1)]
  simp
end Go.Proofs.YtfplalbognalkaaGreat.Ab
/- Unnesting by the program: a map (a loop over columns). -/
namespace Go.Proofs.YtfplalbognalkaaGreat.Ab
open Go
theorem seal4 {i n k m:Nat} {es:List (List E)} {k' t' m' w' l r:Int} {d:D} :SealTos i n k m es [d,frD k' t' m' w' .zs (.vec i n k) l r] [d,frD k' t' m' w' (.e (.fs 0 [])) (.e (.fs m es)) l r]:=
 ⟨SealTo.refl,SealTo.agg ⟨SealTo.refl,SealTo.refl,SealTo.refl,SealTo.refl,SealTo.sub sub_zs,SealTo.vec,SealTo.refl,SealTo.refl,trivial⟩,trivial⟩
abbrev H8 (x:List (List E)) (xw:E) (es1:List (List E)) (n1:Nat) (row:List E) (qi:Nat) (b:Bool) (ys:List E) (t:RF):List O:= [.ids qi,.box [.e (.sl x),.e xw,.own (t 2) es1],.front n1 8,.box (row.map .e),.vec b 1 (ys.map .e)]
theorem h8_side {x:List (List E)} {xw:E} {es1:List (List E)} {n1:Nat} {row:List E} {qi:Nat} {b:Bool} {ys:List E} {env:RF->List (Nat×D)} (h1: ∀t,env t=renEnv t (env id)) (h2:ltEnv 5 (env id)=true):SideW env (H8 x xw es1 n1 row qi b ys):=
 ⟨h1,h2,fun t=>by simp only [List.map_cons,List.map_nil,O.ren,rens_e];rfl,by
  intro o ho
  simp only [List.mem_cons,List.not_mem_nil,or_false] at ho
  rcases ho with rfl | rfl | rfl | rfl | rfl
  ·rfl
  ·rfl
  ·rfl
  ·simp only [O.lt,lts_e]
  ·simp only [O.lt,lts_e]⟩
theorem ui4 (T M:Int) (Ex:List (Int×Int)) (Exs:List (List (Int×Int))) (L R:Int) (x xe ye:List (List E)) (xw:E) (hye:ye=Exs.map orr) (hyl:Exs.length<=1048576) (hyy: ∀e∈Exs,e.length<=1048576) (q:Nat) (i d w:Int) (hi:0<=i/\i<x.length) (es:List (List E)) (n:Nat) (hn:n=es.length) (hlen:n<=1000000)
  (hw:0<=w/\w<=1000) (qa:Nat) (es1:List (List E)) (n1:Nat) (hn1:n1=es1.length) (p1:Int) (hb1:n1<=1000000) (es2:List (List E)) (n2:Nat) (hn2:n2=es2.length) (p2:Int) (hp2:p2=es1.length) (qs:Nat) (hqs:qs=qa+w.toNat+Exs.length+1)
  (he2:es2=es1++ [frE 4 0 0 0 (.fs 0 []) (eXs (qs,numL nX one1 qa (colsE w++Exs))) p1 0])
  (q1:x.getD i.toNat []= [E.int 4,E.int T,E.int M,E.sl xe,E.sl ye,E.int L,E.int R]) (h1:UI (.sl x) xw q L d w es n qa es1 n1 p1):
  UI (.sl x) xw q i d w es n (qs+1) es2 n2 p2:=procOf mixed p39 ui_side fun A P hA hP=>(by
 have k1:A.eq 4 1=false:=hA.eq _ _
 have k2:A.eq 4 2=false:=hA.eq _ _
 have k3:A.eq 4 3=false:=hA.eq _ _
 have k4:A.eq 4 4=true:=hA.eq _ _
 obtain ⟨ts,hts⟩: ∃ts,ts=(numL nX one1 qa (colsE w)).map xrow:=⟨_,rfl⟩
 have hcl:(colsE w).length=w.toNat:=by simp [colsE]
 have htl:ts.length=w.toNat:=by rw [hts,List.length_map,numL_len,hcl]
 have htk: ∀e∈ts,e.length=1:=by
  rw [hts]
  intro e h
  obtain ⟨p,_,rfl⟩:=List.mem_map.1 h
  rfl
 obtain ⟨row,hrw⟩: ∃row:List E,row= [E.int 4,E.int T,E.int M,E.sl xe,E.sl ye,E.int L,E.int R]:=⟨_,rfl⟩
 obtain ⟨qe,hqe⟩: ∃q,q=qs+1:=⟨_,rfl⟩
 rw [<-hqe]
 cbv
 repeat' first | exact W1 | (simp only [k1,k2,k3,k4];cbv) | refine WA ?_ ?_ | with_reducible intro hcc | refine WS ?_ | (refine hA.RowE hi q1 ?_;cbv) | ((with_reducible refine hA.st [_,_,_,_,_,_,_] _ _ _ _ ⟨?_,fun ds hds=>?_⟩);rotate_left;subst hds;cbv) | ((with_reducible show A.call _ _ _ _ _ 39 _ _ _);have hc:=h1;refine callK_pr hA hP [0,1,2] (by rfl) (by exact ⟨rfl,rfl,rfl,trivial⟩) (Wks.refl _) ?_ (fun _ _=>hc) hc.side;cbv) | refine W6 ?_ | ((with_reducible first | refine hA.Off fun b hb=>?_ | refine hA.Plus fun b hb=>?_ | refine hA.gb _ _ fun vb hvb=>?_);cbv) | ((with_reducible first | refine hA.App ?_ fun zs m hzs hm=>?_ | refine hA.App0 ?_ fun m hm=>?_ | refine hA.Sto ?_ fun ds hds=>?_ | refine hA.Appv ?_ fun bb m ds hbb hm hds=>?_ | refine hA.Vcut ?_ fun cs hcs=>?_ | refine hA.Appw ?_ fun bb m ds hbb hm hds=>?_ | refine hA.Sapp ?_ fun sl hsl=>?_);rotate_left;cbv) | refine WL ?_ | fail
 all_goals try simp only [hA.sm,n_cast] at *
 all_goals try (first | omega | (simp only [List.length_cons,List.length_nil];omega))
 refine hA.loopI (fun nn s=> ∃(k:Int) (qi:Nat) (xs:List (List E)) (ys:List E) (b:Bool) (m:Nat),0<=k/\nn+k=w/\qi=qa+k.toNat/\xs=ts.take k.toNat/\ys=xs.flatten/\m=xs.length/\b=decide (0<m)/\
   s=⟨[(72,.int k),(71,.int w),(13,.vec 4 m 1),(0,.ref 1 0),(12,.int p1),(9,.ref 3 0)],H8 x xw es1 n1 row qi b ys id⟩) w.toNat _
  ((Weak.zvec 13 1 rfl).trans (Weak.keep (env':= [(72,.int 0),(71,.int w),(13,.vec 4 0 1),(0,.ref 1 0),(12,.int p1),(9,.ref 3 0)]) ⟨rfl,rfl,rfl,rfl,rfl,rfl,trivial⟩))
  ⟨0,qa, [], [],false,0,by omega,by omega,by omega,rfl,rfl,rfl,rfl,by rw [hrw];rfl⟩ ?_
 rintro nn s K ⟨k,qi,xs,ys,b,m,h0,hk1,hq,h2,hys,hm,hb,rfl⟩ hK
 have hxl:xs.length=k.toNat:=by rw [h2,List.length_take];omega
 have hxk: ∀e∈xs,e.length=1:=fun e h=>htk e (by rw [h2] at h;exact List.mem_of_mem_take h)
 have hyl':ys.length=m * 1:=by rw [hys,flatten_len hxk,hm]
 obtain ⟨dy,hdy⟩: ∃d,d=ys.map D.e:=⟨_,rfl⟩
 have hdl:dy.length=m * 1:=by rw [hdy,List.length_map,hyl']
 have hH:H8 x xw es1 n1 row qi b ys id= [.ids qi,.box [.e (.sl x),.e xw,.own 2 es1],.front n1 8,.box [.int 4,.int T,.int M,.e (.sl xe),.e (.sl ye),.int L,.int R],.vec b 1 dy]:=by rw [hdy,hrw];rfl
 rw [hH]
 by_cases hin:k<w
 ·have e1:A.lt k w=true:=by rw [hA.lt];exact decide_eq_true hin
  obtain ⟨qj,hqj⟩: ∃q,q=qi+1:=⟨_,rfl⟩
  obtain ⟨X1,hX1⟩: ∃X,X=eX (qi, [(3,k)]):=⟨_,rfl⟩
  have h262:=n262 qi k
  rw [<-hX1,<-hqj] at h262
  have hrow:ts.take (k+1).toNat=xs++ [[X1]]:=by
   rw [show (k+1).toNat=k.toNat+1 by omega,List.take_add_one,<-h2,hts,List.getElem?_map,numL_get,sum1,List.length_take,hcl,colsE,List.getElem?_map,List.getElem?_range (by omega)]
   simp only [Option.map_some,nX,colE]
   rw [show qa+min k.toNat w.toNat=qi by omega,show ((k.toNat:Nat):Int)=k by omega,hX1]
   rfl
  have go: ∀(b':Bool) (m':Nat) (ds':List D) (j:Nat) (env:List (Nat×D)) (hp:List O),b'=(b || decide (0<([[X1]]:List (List E)).length))->m'=m+([[X1]]:List (List E)).length->ds'=dy.take (m * 1)++([[X1]]:List (List E)).flatten.map .e->
    hpF hp 0= .ids qj->hpF hp 1= .box [.e (.sl x),.e xw,.own 2 es1]->hpF hp 2= .front n1 8->hpF hp 3= .box [.int 4,.int T,.int M,.e (.sl xe),.e (.sl ye),.int L,.int R]->hpF hp j= .vec b' 1 ds'->(ndB [0,1,2,3,j]&&firstB 3 [0,1,2,3,j] 0)=true->
    subW [(72,.int (k+1)),(71,.int w),(13,.vec j m' 1),(0,.ref 1 0),(12,.int p1),(9,.ref 3 0)] env->K ⟨env,hp⟩:=fun b' m' ds' j env hp g3 g4 g5 f0 f1 f2 f3 f4 g6 g7=>by
   have hds:ds'=(ys++ [X1]).map .e:=by
    rw [g5,List.take_of_length_le (by omega),hdy]
    simp
   refine hK _ (nn-1) _ (by omega) (Weak.ren (l0:= [.ids q,.box [.e (.sl x),.e xw,.own 2 es],.front n 8]) [0,1,2,3,j] (fun t=> [(72,.int (k+1)),(71,.int w),(13,.vec (t 4) m' 1),(0,.ref (t 1) 0),(12,.int p1),(9,.ref (t 3) 0)]) (H8 x xw es1 n1 row qj b' (ys++ [X1])) g6 g7 ⟨f0,f1,f2,by rw [f3,hrw];rfl,by rw [f4,hds],trivial⟩ (h8_side (fun t=>rfl) rfl))
    ⟨k+1,qj,xs++ [[X1]],_,b',m',by omega,by omega,by omega,hrow.symm,by rw [hys];simp,by rw [g4,hm];simp,by rw [g3,g4];simp,rfl⟩
  clear hK hrow hX1 hqj hH
  cbv
  repeat' first | exact W1 | (simp only [e1];cbv) | refine WA ?_ ?_ | with_reducible intro hcc | refine WS ?_ | ((with_reducible show A.call _ _ _ _ _ 90 _ _ _);have hc:=h262;refine callK_pr hA hP [0] (by rfl) (by exact ⟨rfl,trivial⟩) (Wks.refl _) ?_ (fun _ _=>hc) hc.side;cbv) | refine W6 ?_ | ((with_reducible first | refine hA.Off fun b hb=>?_ | refine hA.Plus fun b hb=>?_ | refine hA.gb _ _ fun vb hvb=>?_);cbv) | ((with_reducible first | refine hA.App ?_ fun zs m hzs hm=>?_ | refine hA.App0 ?_ fun m hm=>?_ | refine hA.Sto ?_ fun ds hds=>?_ | refine hA.Appv ?_ fun bb m ds hbb hm hds=>?_ | refine hA.Vcut ?_ fun cs hcs=>?_ | refine hA.Appw ?_ fun bb m ds hbb hm hds=>?_ | refine hA.Sapp ?_ fun sl hsl=>?_);rotate_left;cbv) | refine WL ?_ | fail
  all_goals try simp only [hA.sm,n_cast] at *
  all_goals first
   | omega
   | exact go _ _ _ _ _ _ (by assumption) (by assumption) (by assumption) rfl rfl rfl rfl rfl rfl ⟨.inl rfl,.inl rfl,.inl rfl,.inl rfl,.inl rfl,.inl rfl,trivial⟩
   | exact ⟨rfl,trivial⟩
   | (simp only [List.length_cons,List.length_nil];omega)
   | (refine ⟨?_,rfl,trivial⟩;simp only [List.length_cons,List.length_nil];omega)
 ·have e1:A.lt k w=false:=by rw [hA.lt];exact decide_eq_false hin
  have hxe:xs=ts:=by rw [h2];exact List.take_of_length_le (by omega)
  have hmw:m=w.toNat:=by rw [hm,hxl];omega
  have hqq:qi=qa+w.toNat:=by omega
  obtain ⟨qj,hqj⟩: ∃q,q=qi+Exs.length:=⟨_,rfl⟩
  obtain ⟨ty,hty⟩: ∃t,t=(numL nX one1 qi Exs).map xrow:=⟨_,rfl⟩
  have h260:Proc Tryz.prog 91 (fun _=> [.e (.sl ye)]) (fun _=> [.ids qi]) (fun _=> .e (.fs qj ty)) (fun _=> [.ids qs]):=by
   rw [hty,hqj,hqs,<-hqq]
   exact n260 qi Exs ye hye (by rw [hye,List.length_map];exact hyl) hyy
  have htyl:ty.length=Exs.length:=by rw [hty,List.length_map,numL_len]
  have htyk:allLen 1 ty:=allLen_iff.2 (by rw [hty];intro e h;obtain ⟨p,_,rfl⟩:=List.mem_map.1 h;rfl)
  obtain ⟨esx,hesx⟩: ∃e,e=ts++ty:=⟨_,rfl⟩
  have hesk: ∀e∈esx,e.length=1:=by
   rw [hesx]
   intro e h
   rcases List.mem_append.1 h with h | h
   ·exact htk e h
   ·exact allLen_iff.1 htyk e h
  have hX:eXs (qs,numL nX one1 qa (colsE w++Exs))= .fs qs esx:=by
   rw [eXs,hesx,hts,hty,numL_app,sum1,hcl,hqq,List.map_append]
  rw [hX] at he2
  have a1:=ua (.sl x) xw es1 n1 hn1 (by omega) 4 0 0 0 (.fs 0 []) (.fs qs esx) p1 0 es2 n2 hn2 he2 p2 hp2
  have hcs: ∀ {m':Nat} {ds':List D},m'=m+ty.length->ds'=dy.take (m * 1)++ty.flatten.map .e->esx.length=m'/\ds'.take (m' * 1)=esx.flatten.map .e:=fun {m' ds'} g1 g2=>by
   have e2:esx.length=m':=by rw [hesx,List.length_append,<-hxe,<-hm,g1]
   refine ⟨e2,?_⟩
   have e3:ds'=esx.flatten.map .e:=by
    rw [g2,List.take_of_length_le (by omega),hdy,hys,hxe,hesx,List.flatten_append,List.map_append]
   rw [e3,List.take_of_length_le]
   rw [List.length_map,flatten_len hesk,e2]
   exact Nat.le_refl _
  clear hK hH hX hts hty hqj hqs hesx he2 hye
  cbv
  repeat' first | exact W1 | (simp only [e1];cbv) | refine WA ?_ ?_ | with_reducible intro hcc | refine WS ?_ | ((with_reducible show A.call _ _ _ _ _ 91 _ _ _);have hc:=h260;refine callK_pr hA hP [0] (by rfl) (by exact ⟨rfl,trivial⟩) (Wks.refl _) ?_ (fun _ _=>hc) hc.side;cbv) | ((with_reducible show A.call _ _ _ _ _ 88 _ _ _);(obtain ⟨c1,c2⟩:=hcs (by assumption) (by assumption));refine callK_seal hA hP [1,2] (t:=0) esx rfl rfl (by rfl) (by exact ⟨rfl,rfl,trivial⟩) c1 c2 hesk seal4 ?_ a1;cbv) | refine W6 ?_ | ((with_reducible first | refine hA.Off fun b hb=>?_ | refine hA.Plus fun b hb=>?_ | refine hA.gb _ _ fun vb hvb=>?_);cbv) | ((with_reducible first | refine hA.App ?_ fun zs m hzs hm=>?_ | refine hA.App0 ?_ fun m hm=>?_ | refine hA.Sto ?_ fun ds hds=>?_ | refine hA.Appv ?_ fun bb m ds hbb hm hds=>?_ | refine hA.Vcut ?_ fun cs hcs=>?_ | refine hA.Appw ?_ fun bb m ds hbb hm hds=>?_ | refine hA.Sapp ?_ fun sl hsl=>?_);rotate_left;cbv) | refine WL ?_ | fail
  all_goals try simp only [hA.sm,n_cast] at *
  all_goals first
   | omega
   | exact ui_fin hA (by rw [hqe];rfl) rfl rfl
   | exact ⟨by omega,htyk⟩
   | exact ⟨rfl,trivial⟩)
end Go.Proofs.YtfplalbognalkaaGreat.Ab
/- Unnesting by the specification: one step, by kind. -/
namespace Go.Proofs.YtfplalbognalkaaGreat.Ab
open Go
def c34:F:=⟨163, [(.tmp 12),(.tmp 13)],(.seq (.reg [ZA 6 (.box 0),ZA 7 (.box 1),ZA 12 (.mov (.c .zs)),ZA 13 (.mov (.c (.int 0)))]) (.seq (.reg [ZE 19 0 6,ZL 20 19,ZM 21 2,ZA 22 (.iadr none 7 20 21),ZA 23 (.load true 7 22),ZA 14 (.alloc [(.int 0),(.int 0),(.int 0),(.e (.sl [])),(.e (.sl [])),(.int 0),(.int 0)]),ZN (.store true 7 14 23)]) (.seq (.seq (.reg [ZE 24 0 14,ZL 25 24,ZA 26 (.bin .eql 25 (.c (.int 1)))]) (.cond 26 (.seq (.reg [ZM 27 5,ZM 28 3,ZM 12 27,ZM 13 28]) .ret) .skip)) (.seq (.seq (.reg [ZE 29 0 14,ZL 30 29,ZA 31 (.bin .eql 30 (.c (.int 2)))]) (.cond 31 (.seq (.reg [ZM 32 5,ZE 33 1 14,ZL 34 33,ZA 35 (.build [(.int 0),(.int 0),(.int 0),(.int 0),.zs,.zs,(.int 0),(.int 0)] [(0,(1,(.c (.int 2)))),(1,(1,34))]),ZA 36 (.lit 8 [(.v (.int .i64 0)),(.v (.int .i64 0)),(.v (.int .i64 0)),(.v (.int .i64 0)),(.sl []),(.sl []),(.v (.int .i64 0)),(.v (.int .i64 0))] 1 [(0,35)]),ZA 37 (.app 8 32 36),ZM 5 37]) (.seq (.reg [ZM 38 5,ZM 39 3,ZM 40 5,ZA 41 (.lenl 40),ZA 42 (.bin .sub 41 (.c (.int 1))),ZA 43 (.build [(.int 0),(.int 0),(.int 0),(.int 0),.zs,.zs,(.int 0),(.int 0)] [(0,(1,(.c (.int 5)))),(6,(1,39)),(7,(1,42))]),ZA 44 (.lit 8 [(.v (.int .i64 0)),(.v (.int .i64 0)),(.v (.int .i64 0)),(.v (.int .i64 0)),(.sl []),(.sl []),(.v (.int .i64 0)),(.v (.int .i64 0))] 1 [(0,43)]),ZA 45 (.app 8 38 44),ZM 5 45]) (.seq (.reg [ZM 46 5,ZM 47 5,ZA 48 (.lenl 47),ZA 49 (.bin .sub 48 (.c (.int 1))),ZM 12 46,ZM 13 49]) .ret))) .skip)) (.seq (.reg [ZA 15 (.mov (.c (.int 0)))]) (.seq (.reg [ZA 16 (.mov (.c (.int 0)))]) (.seq (.reg [ZA 51 (.load true 1 6),ZA 52 (.load true 1 7),ZE 53 5 14,ZL 54 53,ZM 55 3,ZM 56 4,ZM 57 5,ZC 58 34 [51,52,54,55,56,57],ZM 50 58,ZA 59 (.ext 0 50),ZA 60 (.ext 1 50),ZM 5 59,ZM 15 60]) (.seq (.reg [ZM 61 15,ZE 62 3 14,ZL 63 62,ZC 64 81 [63],ZA 65 (.build [(.int 0),(.int 0),(.int 0),(.int 0),.zs,.zs,(.int 0),(.int 0)] [(6,(1,61)),(4,(1,64))]),ZA 17 (.alloc [(.int 0),(.int 0),(.int 0),(.int 0),(.e (.sl [])),(.e (.sl [])),(.int 0),(.int 0)]),ZN (.store true 8 17 65)]) (.seq (.seq (.reg [ZE 66 0 14,ZL 67 66,ZA 68 (.bin .eql 67 (.c (.int 3)))]) (.cond 68 (.reg [ZE 69 0 17,ZN (.store false 1 69 (.c (.int 3)))]) (.seq (.reg [ZE 70 0 14,ZL 71 70,ZA 72 (.bin .eql 71 (.c (.int 4)))]) (.cond 72 (.seq (.reg [ZE 73 0 17,ZN (.store false 1 73 (.c (.int 4)))]) (.dreg [⟨ZM 74 4, [], [4]⟩,⟨ZC 75 82 [74], [], [74]⟩,⟨ZE 76 4 14, [0,1], [14]⟩,⟨ZL 77 76, [0,1], [76]⟩,⟨ZC 78 83 [77], [], [77]⟩,⟨ZA 79 (.app 1 75 78), [], [75,78]⟩,⟨ZE 80 5 17, [], [17]⟩,⟨ZN (.store false 1 80 79), [], [80,79]⟩])) (.seq (.reg [ZE 81 0 14,ZL 82 81,ZA 83 (.bin .eql 82 (.c (.int 9)))]) (.cond 83 (.reg [ZE 84 0 17,ZN (.store false 1 84 (.c (.int 8)))]) (.seq (.reg [ZE 85 0 14,ZL 86 85,ZA 87 (.bin .eql 86 (.c (.int 5))),ZM 88 87,ZF 89 88 (.fadr 0 14),ZF 90 88 (.load false 1 89),ZF 91 88 (.bin .eql 90 (.c (.int 10))),ZA 92 (.pick 88 (.c (.bool true)) 91)]) (.cond 92 (.seq (.reg [ZA 94 (.load true 1 6),ZA 95 (.load true 1 7),ZE 96 6 14,ZL 97 96,ZM 98 3,ZM 99 4,ZM 100 5,ZC 101 34 [94,95,97,98,99,100],ZM 93 101,ZA 102 (.ext 0 93),ZA 103 (.ext 1 93),ZM 5 102,ZM 16 103]) (.seq (.reg [ZM 104 16,ZE 105 7 17,ZN (.store false 1 105 104)]) (.seq (.reg [ZE 106 0 17,ZN (.store false 1 106 (.c (.int 9)))]) (.seq (.reg [ZE 107 0 14,ZL 108 107,ZA 109 (.bin .eql 108 (.c (.int 5)))]) (.cond 109 (.seq (.reg [ZE 110 0 17,ZN (.store false 1 110 (.c (.int 5)))]) (.reg [ZM 111 4,ZE 112 3 17,ZN (.store false 1 112 111)])) .skip))))) (.seq (.reg [ZM 113 5,ZM 114 15,ZA 115 (.build [(.int 0),(.int 0),(.int 0),(.int 0),.zs,.zs,(.int 0),(.int 0)] [(0,(1,(.c (.int 8)))),(6,(1,114))]),ZA 116 (.lit 8 [(.v (.int .i64 0)),(.v (.int .i64 0)),(.v (.int .i64 0)),(.v (.int .i64 0)),(.sl []),(.sl []),(.v (.int .i64 0)),(.v (.int .i64 0))] 1 [(0,115)]),ZA 117 (.app 8 113 116),ZM 5 117]) (.seq (.reg [ZM 118 4,ZA 119 (.load true 1 6),ZA 120 (.load true 1 7),ZE 121 5 14,ZL 122 121,ZM 123 4,ZC 124 80 [119,120,122,123],ZA 125 (.bin .add 118 124),ZM 18 125]) (.seq (.reg [ZA 127 (.load true 1 6),ZA 128 (.load true 1 7),ZE 129 6 14,ZL 130 129,ZM 131 5,ZA 132 (.lenl 131),ZA 133 (.bin .sub 132 (.c (.int 1))),ZM 134 18,ZM 135 5,ZC 136 34 [127,128,130,133,134,135],ZM 126 136,ZA 137 (.ext 0 126),ZA 138 (.ext 1 126),ZM 5 137,ZM 16 138]) (.seq (.reg [ZM 139 16,ZE 140 7 17,ZN (.store false 1 140 139)]) (.seq (.reg [ZM 141 18,ZE 142 3 17,ZN (.store false 1 142 141)]) (.seq (.reg [ZE 143 2 14,ZL 144 143,ZE 145 2 17,ZN (.store false 1 145 144)]) (.seq (.reg [ZE 146 0 17,ZN (.store false 1 146 (.c (.int 5)))]) (.seq (.seq (.reg [ZE 147 0 14,ZL 148 147,ZA 149 (.bin .eql 148 (.c (.int 7)))]) (.cond 149 (.reg [ZE 150 0 17,ZN (.store false 1 150 (.c (.int 6)))]) .skip)) (.seq (.reg [ZE 151 0 14,ZL 152 151,ZA 153 (.bin .eql 152 (.c (.int 8)))]) (.cond 153 (.reg [ZE 154 0 17,ZN (.store false 1 154 (.c (.int 7)))]) .skip)))))))))))))))))) (.seq (.reg [ZM 155 5,ZA 156 (.load true 8 17),ZA 157 (.lit 8 [(.v (.int .i64 0)),(.v (.int .i64 0)),(.v (.int .i64 0)),(.v (.int .i64 0)),(.sl []),(.sl []),(.v (.int .i64 0)),(.v (.int .i64 0))] 1 [(0,156)]),ZA 158 (.app 8 155 157),ZM 5 158]) (.seq (.reg [ZM 159 5,ZM 160 5,ZA 161 (.lenl 160),ZA 162 (.bin .sub 161 (.c (.int 1))),ZM 12 159,ZM 13 162]) .ret)))))))))))⟩
theorem p34:prepF Tryz.prog 34=some c34:=by kernel_rfl
theorem un_side {a b:E} {i d w p:Int} {es es':List (List E)} {n n':Nat} :Side (fun t=> [.agg [.e a],.agg [.e b],.int i,.int d,.int w,.own (t 0) es]) (fun _=> [.front n 8]) (fun t=> .tup [.own (t 0) es',.int p]) (fun _=> [.front n' 8]):=
 ⟨fun t=>rfl,rfl,fun t=>rfl,by intro o ho;rw [List.mem_singleton] at ho;subst ho;rfl,fun t=>rfl,fun t=>rfl,Nat.le_refl _⟩
theorem un_fin {A:Ar} (hA:A.Ok) {n n':Nat} {es':List (List E)} {p:Int} {l':List O} (h:hpF l' 0= .front n' 8):A.finv [.front n 8] l' (.tup [.own 0 es',.int p]) [.front n' 8] (.tup [.own 0 es',.int p]):=
 hA.finv _ _ _ _ _ (FinV.ren [0] (fun _=> [.front n' 8]) (fun t=> .tup [.own (t 0) es',.int p]) rfl (.inl rfl) ⟨h,trivial⟩ (fun t=>rfl) rfl (fun t=>rfl) (by intro o ho;rw [List.mem_singleton] at ho;subst ho;rfl))
abbrev US (a b:E) (i d w:Int) (es:List (List E)) (n:Nat) (es':List (List E)) (n':Nat) (p:Int):Prop:=
 Proc Tryz.prog 34 (fun t=> [.agg [.e a],.agg [.e b],.int i,.int d,.int w,.own (t 0) es]) (fun _=> [.front n 8]) (fun t=> .tup [.own (t 0) es',.int p]) (fun _=> [.front n' 8])
theorem us1 (T M:Int) (Ex:List (Int×Int)) (Exs:List (List (Int×Int))) (L R:Int) (x xe ye:List (List E)) (xt:List (List E)) (hxe:xe=Ex.map orow) (hye:ye=Exs.map orr) (hel:Ex.length<=1048576) (hyl:Exs.length<=1048576) (hyy: ∀e∈Exs,e.length<=1048576) (i d w:Int) (hi:0<=i/\i<x.length) (es:List (List E)) (n:Nat) (hn:n=es.length) (hlen:n<=1000000) (q1:x.getD i.toNat []= [E.int 1,E.int T,E.int M,E.sl xe,E.sl ye,E.int L,E.int R]):
  US (.sl x) (.sl xt) i d w es n es n d:=procOf mixed p34 un_side fun A P hA hP=>(by
 have k1:A.eq 1 1=true:=hA.eq _ _
 have k2:A.eq 1 2=false:=hA.eq _ _
 have k3:A.eq 1 3=false:=hA.eq _ _
 have k4:A.eq 1 4=false:=hA.eq _ _
 have k9:A.eq 1 9=false:=hA.eq _ _
 have k5:A.eq 1 5=false:=hA.eq _ _
 have k10:A.eq 1 10=false:=hA.eq _ _
 have k7:A.eq 1 7=false:=hA.eq _ _
 have k8:A.eq 1 8=false:=hA.eq _ _
 cbv
 repeat' first | exact W1 | (simp only [k1,k2,k3,k4,k9,k5,k10,k7,k8];cbv) | refine WA ?_ ?_ | with_reducible intro hcc | refine WS ?_ | (refine hA.RowE hi q1 ?_;cbv) | ((with_reducible refine hA.st [_,_,_,_,_,_,_] _ _ _ _ ⟨?_,fun ds hds=>?_⟩);rotate_left;subst hds;cbv) | refine W6 ?_ | ((with_reducible first | refine hA.Len fun z hz hb=>?_ | refine hA.Off fun b hb=>?_ | refine hA.Plus fun b hb=>?_ | refine hA.gb _ _ fun vb hvb=>?_);cbv) | ((with_reducible first | refine hA.App ?_ fun zs m hzs hm=>?_ | refine hA.App0 ?_ fun m hm=>?_ | refine hA.Sto ?_ fun ds hds=>?_ | refine hA.Appv ?_ fun bb m ds hbb hm hds=>?_ | refine hA.Vcut ?_ fun cs hcs=>?_ | refine hA.Appw ?_ fun bb m ds hbb hm hds=>?_ | refine hA.Sapp ?_ fun sl hsl=>?_);rotate_left;cbv) | refine WL ?_ | fail
 all_goals try simp only [hA.sm,n_cast] at *
 all_goals first
  | omega
  | trivial
  | exact un_fin hA rfl
  | exact ⟨rfl,trivial⟩
  | (simp only [List.length_cons,List.length_nil];omega)
  | (simp only [List.length_append,List.length_cons,List.length_nil];omega)
  | exact congrArg (fun k=>O.front k 8) hn
  | exact congrArg (fun k=>O.front k 8) hn1
  | exact congrArg (fun k=>O.front k 8) hn3
  | exact congrArg (fun k=>O.front k 1) hnw
  | (refine ⟨?_,⟨rfl,trivial⟩,rfl⟩;simp only [List.length_append,List.length_cons,List.length_nil] at *;omega))
theorem us2 (T M:Int) (Ex:List (Int×Int)) (Exs:List (List (Int×Int))) (L R:Int) (x xe ye:List (List E)) (xt:List (List E)) (hxe:xe=Ex.map orow) (hye:ye=Exs.map orr) (hel:Ex.length<=1048576) (hyl:Exs.length<=1048576) (hyy: ∀e∈Exs,e.length<=1048576) (i d w:Int) (hi:0<=i/\i<x.length) (es:List (List E)) (n:Nat) (hn:n=es.length) (hlen:n<=1000000) (es1 es2:List (List E)) (n2:Nat) (hn2:n2=es2.length) (he1:es1=es++ [[E.int 2,E.int T,E.int 0,E.int 0,E.sl [],E.sl [],E.int 0,E.int 0]]) (p:Int) (hp:p=es.length) (p2:Int) (hp2:p2=es1.length) (he2:es2=es1++ [[E.int 5,E.int 0,E.int 0,E.int 0,E.sl [],E.sl [],E.int d,E.int p]]) (q1:x.getD i.toNat []= [E.int 2,E.int T,E.int M,E.sl xe,E.sl ye,E.int L,E.int R]):
  US (.sl x) (.sl xt) i d w es n es2 n2 p2:=procOf mixed p34 un_side fun A P hA hP=>(by
 have k1:A.eq 2 1=false:=hA.eq _ _
 have k2:A.eq 2 2=true:=hA.eq _ _
 have k3:A.eq 2 3=false:=hA.eq _ _
 have k4:A.eq 2 4=false:=hA.eq _ _
 have k9:A.eq 2 9=false:=hA.eq _ _
 have k5:A.eq 2 5=false:=hA.eq _ _
 have k10:A.eq 2 10=false:=hA.eq _ _
 have k7:A.eq 2 7=false:=hA.eq _ _
 have k8:A.eq 2 8=false:=hA.eq _ _
 have hl1:es1.length=es.length+1:=by rw [he1];simp
 have hl2:es2.length=es1.length+1:=by rw [he2];simp
 obtain ⟨n1,hn1⟩: ∃n,n=es1.length:=⟨_,rfl⟩
 obtain ⟨z1,hz1⟩: ∃z:Int,z=es1.length:=⟨_,rfl⟩
 obtain ⟨z2,hz2⟩: ∃z:Int,z=es2.length:=⟨_,rfl⟩
 have hq:p=A.sub z1 1:=by rw [hA.sub];omega
 have hq2:p2=A.sub z2 1:=by rw [hA.sub];omega
 cbv
 repeat' first | exact W1 | (simp only [k1,k2,k3,k4,k9,k5,k10,k7,k8,<-hq,<-hq2];cbv) | refine WA ?_ ?_ | with_reducible intro hcc | refine WS ?_ | (refine hA.RowE hi q1 ?_;cbv) | ((with_reducible refine hA.st [_,_,_,_,_,_,_] _ _ _ _ ⟨?_,fun ds hds=>?_⟩);rotate_left;subst hds;cbv) | ((with_reducible refine hA.app es _ _ _ _ ⟨?_,fun zs m hzs hm=>?_⟩);rotate_left;(have g:=he1.trans hzs.symm);subst g;(have g:=hn1.trans hm.symm);subst g;cbv) | ((with_reducible refine hA.app es1 _ _ _ _ ⟨?_,fun zs m hzs hm=>?_⟩);rotate_left;(have g:=he2.trans hzs.symm);subst g;(have g:=hn2.trans hm.symm);subst g;cbv) | (refine hA.LenE hz1 fun hb=>?_;cbv) | (refine hA.LenE hz2 fun hb=>?_;cbv) | refine W6 ?_ | ((with_reducible first | refine hA.Len fun z hz hb=>?_ | refine hA.Off fun b hb=>?_ | refine hA.Plus fun b hb=>?_ | refine hA.gb _ _ fun vb hvb=>?_);cbv) | ((with_reducible first | refine hA.App ?_ fun zs m hzs hm=>?_ | refine hA.App0 ?_ fun m hm=>?_ | refine hA.Sto ?_ fun ds hds=>?_ | refine hA.Appv ?_ fun bb m ds hbb hm hds=>?_ | refine hA.Vcut ?_ fun cs hcs=>?_ | refine hA.Appw ?_ fun bb m ds hbb hm hds=>?_ | refine hA.Sapp ?_ fun sl hsl=>?_);rotate_left;cbv) | refine WL ?_ | fail
 all_goals try simp only [hA.sm,n_cast] at *
 all_goals first
  | omega
  | trivial
  | exact un_fin hA rfl
  | exact ⟨rfl,trivial⟩
  | (simp only [List.length_cons,List.length_nil];omega)
  | (simp only [List.length_append,List.length_cons,List.length_nil];omega)
  | exact congrArg (fun k=>O.front k 8) hn
  | exact congrArg (fun k=>O.front k 8) hn1
  | exact congrArg (fun k=>O.front k 8) hn3
  | exact congrArg (fun k=>O.front k 1) hnw
  | (refine ⟨?_,⟨rfl,trivial⟩,rfl⟩;simp only [List.length_append,List.length_cons,List.length_nil] at *;omega))
theorem us3 (T M:Int) (Ex:List (Int×Int)) (Exs:List (List (Int×Int))) (L R:Int) (x xe ye:List (List E)) (xt:List (List E)) (hxe:xe=Ex.map orow) (hye:ye=Exs.map orr) (hel:Ex.length<=1048576) (hyl:Exs.length<=1048576) (hyy: ∀e∈Exs,e.length<=1048576) (i d w:Int) (hi:0<=i/\i<x.length) (es:List (List E)) (n:Nat) (hn:n=es.length) (hlen:n<=1000000) (es1:List (List E)) (n1:Nat) (hn1:n1=es1.length) (p1:Int) (hb1:n1<=1000000) (es2:List (List E)) (n2:Nat) (hn2:n2=es2.length) (p2:Int) (hp2:p2=es1.length) (he2:es2=es1++ [[E.int 3,E.int 0,E.int 0,E.int 0,E.sl xe,E.sl [],E.int p1,E.int 0]]) (q1:x.getD i.toNat []= [E.int 3,E.int T,E.int M,E.sl xe,E.sl ye,E.int L,E.int R]) (h1:US (.sl x) (.sl xt) L d w es n es1 n1 p1):
  US (.sl x) (.sl xt) i d w es n es2 n2 p2:=procOf mixed p34 un_side fun A P hA hP=>(by
 have k1:A.eq 3 1=false:=hA.eq _ _
 have k2:A.eq 3 2=false:=hA.eq _ _
 have k3:A.eq 3 3=true:=hA.eq _ _
 have k4:A.eq 3 4=false:=hA.eq _ _
 have k9:A.eq 3 9=false:=hA.eq _ _
 have k5:A.eq 3 5=false:=hA.eq _ _
 have k10:A.eq 3 10=false:=hA.eq _ _
 have k7:A.eq 3 7=false:=hA.eq _ _
 have k8:A.eq 3 8=false:=hA.eq _ _
 have hl2:es2.length=es1.length+1:=by rw [he2];simp
 obtain ⟨z2,hz2⟩: ∃z:Int,z=es2.length:=⟨_,rfl⟩
 have hq2:p2=A.sub z2 1:=by rw [hA.sub];omega
 have h296:=ok81 Ex xe hxe (by rw [hxe,List.length_map];exact hel)
 cbv
 repeat' first | exact W1 | (simp only [k1,k2,k3,k4,k9,k5,k10,k7,k8,<-hq2];cbv) | refine WA ?_ ?_ | with_reducible intro hcc | refine WS ?_ | (refine hA.RowE hi q1 ?_;cbv) | ((with_reducible refine hA.st [_,_,_,_,_,_,_] _ _ _ _ ⟨?_,fun ds hds=>?_⟩);rotate_left;subst hds;cbv) | ((with_reducible show A.call _ _ _ _ _ 34 _ _ _);have hc:=h1;refine callK_pr hA hP [0] (by rfl) (by exact ⟨rfl,trivial⟩) (Wks.refl _) ?_ (fun _ _=>hc) hc.side;cbv) | refine WK hA hP ?_ | ((with_reducible refine hA.app es1 _ _ _ _ ⟨?_,fun zs m hzs hm=>?_⟩);rotate_left;(have g:=he2.trans hzs.symm);subst g;(have g:=hn2.trans hm.symm);subst g;cbv) | (refine hA.LenE hz2 fun hb=>?_;cbv) | refine W6 ?_ | ((with_reducible first | refine hA.Len fun z hz hb=>?_ | refine hA.Off fun b hb=>?_ | refine hA.Plus fun b hb=>?_ | refine hA.gb _ _ fun vb hvb=>?_);cbv) | ((with_reducible first | refine hA.App ?_ fun zs m hzs hm=>?_ | refine hA.App0 ?_ fun m hm=>?_ | refine hA.Sto ?_ fun ds hds=>?_ | refine hA.Appv ?_ fun bb m ds hbb hm hds=>?_ | refine hA.Vcut ?_ fun cs hcs=>?_ | refine hA.Appw ?_ fun bb m ds hbb hm hds=>?_ | refine hA.Sapp ?_ fun sl hsl=>?_);rotate_left;cbv) | refine WL ?_ | fail
 all_goals try simp only [hA.sm,n_cast] at *
 all_goals first
  | omega
  | trivial
  | exact un_fin hA rfl
  | exact ⟨rfl,trivial⟩
  | (simp only [List.length_cons,List.length_nil];omega)
  | (simp only [List.length_append,List.length_cons,List.length_nil];omega)
  | exact congrArg (fun k=>O.front k 8) hn
  | exact congrArg (fun k=>O.front k 8) hn1
  | exact congrArg (fun k=>O.front k 8) hn3
  | exact congrArg (fun k=>O.front k 1) hnw
  | (refine ⟨?_,⟨rfl,trivial⟩,rfl⟩;simp only [List.length_append,List.length_cons,List.length_nil] at *;omega))
theorem us9 (T M:Int) (Ex:List (Int×Int)) (Exs:List (List (Int×Int))) (L R:Int) (x xe ye:List (List E)) (xt:List (List E)) (hxe:xe=Ex.map orow) (hye:ye=Exs.map orr) (hel:Ex.length<=1048576) (hyl:Exs.length<=1048576) (hyy: ∀e∈Exs,e.length<=1048576) (i d w:Int) (hi:0<=i/\i<x.length) (es:List (List E)) (n:Nat) (hn:n=es.length) (hlen:n<=1000000) (es1:List (List E)) (n1:Nat) (hn1:n1=es1.length) (p1:Int) (hb1:n1<=1000000) (es2:List (List E)) (n2:Nat) (hn2:n2=es2.length) (p2:Int) (hp2:p2=es1.length) (he2:es2=es1++ [[E.int 8,E.int 0,E.int 0,E.int 0,E.sl xe,E.sl [],E.int p1,E.int 0]]) (q1:x.getD i.toNat []= [E.int 9,E.int T,E.int M,E.sl xe,E.sl ye,E.int L,E.int R]) (h1:US (.sl x) (.sl xt) L d w es n es1 n1 p1):
  US (.sl x) (.sl xt) i d w es n es2 n2 p2:=procOf mixed p34 un_side fun A P hA hP=>(by
 have k1:A.eq 9 1=false:=hA.eq _ _
 have k2:A.eq 9 2=false:=hA.eq _ _
 have k3:A.eq 9 3=false:=hA.eq _ _
 have k4:A.eq 9 4=false:=hA.eq _ _
 have k9:A.eq 9 9=true:=hA.eq _ _
 have k5:A.eq 9 5=false:=hA.eq _ _
 have k10:A.eq 9 10=false:=hA.eq _ _
 have k7:A.eq 9 7=false:=hA.eq _ _
 have k8:A.eq 9 8=false:=hA.eq _ _
 have hl2:es2.length=es1.length+1:=by rw [he2];simp
 obtain ⟨z2,hz2⟩: ∃z:Int,z=es2.length:=⟨_,rfl⟩
 have hq2:p2=A.sub z2 1:=by rw [hA.sub];omega
 have h296:=ok81 Ex xe hxe (by rw [hxe,List.length_map];exact hel)
 cbv
 repeat' first | exact W1 | (simp only [k1,k2,k3,k4,k9,k5,k10,k7,k8,<-hq2];cbv) | refine WA ?_ ?_ | with_reducible intro hcc | refine WS ?_ | (refine hA.RowE hi q1 ?_;cbv) | ((with_reducible refine hA.st [_,_,_,_,_,_,_] _ _ _ _ ⟨?_,fun ds hds=>?_⟩);rotate_left;subst hds;cbv) | ((with_reducible show A.call _ _ _ _ _ 34 _ _ _);have hc:=h1;refine callK_pr hA hP [0] (by rfl) (by exact ⟨rfl,trivial⟩) (Wks.refl _) ?_ (fun _ _=>hc) hc.side;cbv) | refine WK hA hP ?_ | ((with_reducible refine hA.app es1 _ _ _ _ ⟨?_,fun zs m hzs hm=>?_⟩);rotate_left;(have g:=he2.trans hzs.symm);subst g;(have g:=hn2.trans hm.symm);subst g;cbv) | (refine hA.LenE hz2 fun hb=>?_;cbv) | refine W6 ?_ | ((with_reducible first | refine hA.Len fun z hz hb=>?_ | refine hA.Off fun b hb=>?_ | refine hA.Plus fun b hb=>?_ | refine hA.gb _ _ fun vb hvb=>?_);cbv) | ((with_reducible first | refine hA.App ?_ fun zs m hzs hm=>?_ | refine hA.App0 ?_ fun m hm=>?_ | refine hA.Sto ?_ fun ds hds=>?_ | refine hA.Appv ?_ fun bb m ds hbb hm hds=>?_ | refine hA.Vcut ?_ fun cs hcs=>?_ | refine hA.Appw ?_ fun bb m ds hbb hm hds=>?_ | refine hA.Sapp ?_ fun sl hsl=>?_);rotate_left;cbv) | refine WL ?_ | fail
 all_goals try simp only [hA.sm,n_cast] at *
 all_goals first
  | omega
  | trivial
  | exact un_fin hA rfl
  | exact ⟨rfl,trivial⟩
  | (simp only [List.length_cons,List.length_nil];omega)
  | (simp only [List.length_append,List.length_cons,List.length_nil];omega)
  | exact congrArg (fun k=>O.front k 8) hn
  | exact congrArg (fun k=>O.front k 8) hn1
  | exact congrArg (fun k=>O.front k 8) hn3
  | exact congrArg (fun k=>O.front k 1) hnw
  | (refine ⟨?_,⟨rfl,trivial⟩,rfl⟩;simp only [List.length_append,List.length_cons,List.length_nil] at *;omega))
theorem us4 (T M:Int) (Ex:List (Int×Int)) (Exs:List (List (Int×Int))) (L R:Int) (x xe ye:List (List E)) (xt:List (List E)) (hxe:xe=Ex.map orow) (hye:ye=Exs.map orr) (hel:Ex.length<=1048576) (hyl:Exs.length<=1048576) (hyy: ∀e∈Exs,e.length<=1048576) (i d w:Int) (hi:0<=i/\i<x.length) (es:List (List E)) (n:Nat) (hn:n=es.length) (hlen:n<=1000000) (es1:List (List E)) (n1:Nat) (hn1:n1=es1.length) (p1:Int) (hb1:n1<=1000000) (es2:List (List E)) (n2:Nat) (hn2:n2=es2.length) (p2:Int) (hp2:p2=es1.length) (hw:w<=1000) (cw:List (List E)) (hcw:cw=(colsE w).map orr) (cx:List (List E)) (hcx:cx=cw++ye) (he2:es2=es1++ [[E.int 4,E.int 0,E.int 0,E.int 0,E.sl xe,E.sl cx,E.int p1,E.int 0]]) (q1:x.getD i.toNat []= [E.int 4,E.int T,E.int M,E.sl xe,E.sl ye,E.int L,E.int R]) (h1:US (.sl x) (.sl xt) L d w es n es1 n1 p1):
  US (.sl x) (.sl xt) i d w es n es2 n2 p2:=procOf mixed p34 un_side fun A P hA hP=>(by
 have k1:A.eq 4 1=false:=hA.eq _ _
 have k2:A.eq 4 2=false:=hA.eq _ _
 have k3:A.eq 4 3=false:=hA.eq _ _
 have k4:A.eq 4 4=true:=hA.eq _ _
 have k9:A.eq 4 9=false:=hA.eq _ _
 have k5:A.eq 4 5=false:=hA.eq _ _
 have k10:A.eq 4 10=false:=hA.eq _ _
 have k7:A.eq 4 7=false:=hA.eq _ _
 have k8:A.eq 4 8=false:=hA.eq _ _
 have hl2:es2.length=es1.length+1:=by rw [he2];simp
 obtain ⟨z2,hz2⟩: ∃z:Int,z=es2.length:=⟨_,rfl⟩
 have hq2:p2=A.sub z2 1:=by rw [hA.sub];omega
 have h296:=ok81 Ex xe hxe (by rw [hxe,List.length_map];exact hel)
 have h256:=ok82 w hw cw hcw
 obtain ⟨nw,hnw⟩: ∃n,n=cw.length:=⟨_,rfl⟩
 have hnwb:nw<=1000:=by rw [hnw,hcw,List.length_map];simp [colsE];omega
 rw [<-hnw] at h256
 obtain ⟨nx,hnx⟩: ∃n,n=cx.length:=⟨_,rfl⟩
 have h297:=ok83 Exs ye hye (by rw [hye,List.length_map];exact hyl) hyy
 have hyel:ye.length<=1048576:=by rw [hye,List.length_map];exact hyl
 have hal:allLen 1 ye:=by rw [hye];exact allLen_iff.2 (fun e h=>by obtain ⟨p,_,rfl⟩:=List.mem_map.1 h;rfl)
 cbv
 repeat' first | exact W1 | (simp only [k1,k2,k3,k4,k9,k5,k10,k7,k8,<-hq2];cbv) | refine WA ?_ ?_ | with_reducible intro hcc | refine WS ?_ | (refine hA.RowE hi q1 ?_;cbv) | ((with_reducible refine hA.st [_,_,_,_,_,_,_] _ _ _ _ ⟨?_,fun ds hds=>?_⟩);rotate_left;subst hds;cbv) | ((with_reducible show A.call _ _ _ _ _ 34 _ _ _);have hc:=h1;refine callK_pr hA hP [0] (by rfl) (by exact ⟨rfl,trivial⟩) (Wks.refl _) ?_ (fun _ _=>hc) hc.side;cbv) | refine WK hA hP ?_ | ((with_reducible show A.call _ _ _ _ _ 82 _ _ _);have hc:=h256;refine callK_pr hA hP [] (by rfl) (by exact trivial) (Wks.refl _) ?_ (fun _ _=>hc) hc.side;cbv) | ((with_reducible refine hA.app cw _ _ _ _ ⟨?_,fun zs m hzs hm=>?_⟩);rotate_left;(have g:=hcx.trans hzs.symm);subst g;(have g:=hnx.trans hm.symm);subst g;cbv) | ((with_reducible refine hA.app es1 _ _ _ _ ⟨?_,fun zs m hzs hm=>?_⟩);rotate_left;(have g:=he2.trans hzs.symm);subst g;(have g:=hn2.trans hm.symm);subst g;cbv) | (refine hA.LenE hz2 fun hb=>?_;cbv) | refine W6 ?_ | ((with_reducible first | refine hA.Len fun z hz hb=>?_ | refine hA.Off fun b hb=>?_ | refine hA.Plus fun b hb=>?_ | refine hA.gb _ _ fun vb hvb=>?_);cbv) | ((with_reducible first | refine hA.App ?_ fun zs m hzs hm=>?_ | refine hA.App0 ?_ fun m hm=>?_ | refine hA.Sto ?_ fun ds hds=>?_ | refine hA.Appv ?_ fun bb m ds hbb hm hds=>?_ | refine hA.Vcut ?_ fun cs hcs=>?_ | refine hA.Appw ?_ fun bb m ds hbb hm hds=>?_ | refine hA.Sapp ?_ fun sl hsl=>?_);rotate_left;cbv) | refine WL ?_ | fail
 all_goals try simp only [hA.sm,n_cast] at *
 all_goals first
  | omega
  | trivial
  | exact un_fin hA rfl
  | exact ⟨rfl,trivial⟩
  | (simp only [List.length_cons,List.length_nil];omega)
  | (simp only [List.length_append,List.length_cons,List.length_nil];omega)
  | exact congrArg (fun k=>O.front k 8) hn
  | exact congrArg (fun k=>O.front k 8) hn1
  | exact congrArg (fun k=>O.front k 8) hn3
  | exact congrArg (fun k=>O.front k 1) hnw
  | (refine ⟨?_,⟨rfl,trivial⟩,rfl⟩;simp only [List.length_append,List.length_cons,List.length_nil] at *;omega))
theorem us5 (T M:Int) (Ex:List (Int×Int)) (Exs:List (List (Int×Int))) (L R:Int) (x xe ye:List (List E)) (xt:List (List E)) (hxe:xe=Ex.map orow) (hye:ye=Exs.map orr) (hel:Ex.length<=1048576) (hyl:Exs.length<=1048576) (hyy: ∀e∈Exs,e.length<=1048576) (i d w:Int) (hi:0<=i/\i<x.length) (es:List (List E)) (n:Nat) (hn:n=es.length) (hlen:n<=1000000) (es1:List (List E)) (n1:Nat) (hn1:n1=es1.length) (p1:Int) (hb1:n1<=1000000) (es3:List (List E)) (n3:Nat) (hn3:n3=es3.length) (p3:Int) (hb3:n3<=1000000) (es2:List (List E)) (n2:Nat) (hn2:n2=es2.length) (p2:Int) (hp2:p2=es3.length) (he2:es2=es3++ [[E.int 5,E.int 0,E.int 0,E.int w,E.sl xe,E.sl [],E.int p1,E.int p3]]) (q1:x.getD i.toNat []= [E.int 5,E.int T,E.int M,E.sl xe,E.sl ye,E.int L,E.int R]) (h1:US (.sl x) (.sl xt) L d w es n es1 n1 p1) (h2:US (.sl x) (.sl xt) R d w es1 n1 es3 n3 p3):
  US (.sl x) (.sl xt) i d w es n es2 n2 p2:=procOf mixed p34 un_side fun A P hA hP=>(by
 have k1:A.eq 5 1=false:=hA.eq _ _
 have k2:A.eq 5 2=false:=hA.eq _ _
 have k3:A.eq 5 3=false:=hA.eq _ _
 have k4:A.eq 5 4=false:=hA.eq _ _
 have k9:A.eq 5 9=false:=hA.eq _ _
 have k5:A.eq 5 5=true:=hA.eq _ _
 have k10:A.eq 5 10=false:=hA.eq _ _
 have k7:A.eq 5 7=false:=hA.eq _ _
 have k8:A.eq 5 8=false:=hA.eq _ _
 have hl2:es2.length=es3.length+1:=by rw [he2];simp
 obtain ⟨z2,hz2⟩: ∃z:Int,z=es2.length:=⟨_,rfl⟩
 have hq2:p2=A.sub z2 1:=by rw [hA.sub];omega
 have h296:=ok81 Ex xe hxe (by rw [hxe,List.length_map];exact hel)
 cbv
 repeat' first | exact W1 | (simp only [k1,k2,k3,k4,k9,k5,k10,k7,k8,<-hq2];cbv) | refine WA ?_ ?_ | with_reducible intro hcc | refine WS ?_ | (refine hA.RowE hi q1 ?_;cbv) | ((with_reducible refine hA.st [_,_,_,_,_,_,_] _ _ _ _ ⟨?_,fun ds hds=>?_⟩);rotate_left;subst hds;cbv) | ((with_reducible show A.call _ _ _ _ _ 34 _ _ _);have hc:=h1;refine callK_pr hA hP [0] (by rfl) (by exact ⟨rfl,trivial⟩) (Wks.refl _) ?_ (fun _ _=>hc) hc.side;cbv) | ((with_reducible show A.call _ _ _ _ _ 34 _ _ _);have hc:=h2;refine callK_pr hA hP [0] (by rfl) (by exact ⟨rfl,trivial⟩) (Wks.refl _) ?_ (fun _ _=>hc) hc.side;cbv) | refine WK hA hP ?_ | ((with_reducible refine hA.app es3 _ _ _ _ ⟨?_,fun zs m hzs hm=>?_⟩);rotate_left;(have g:=he2.trans hzs.symm);subst g;(have g:=hn2.trans hm.symm);subst g;cbv) | (refine hA.LenE hz2 fun hb=>?_;cbv) | refine W6 ?_ | ((with_reducible first | refine hA.Len fun z hz hb=>?_ | refine hA.Off fun b hb=>?_ | refine hA.Plus fun b hb=>?_ | refine hA.gb _ _ fun vb hvb=>?_);cbv) | ((with_reducible first | refine hA.App ?_ fun zs m hzs hm=>?_ | refine hA.App0 ?_ fun m hm=>?_ | refine hA.Sto ?_ fun ds hds=>?_ | refine hA.Appv ?_ fun bb m ds hbb hm hds=>?_ | refine hA.Vcut ?_ fun cs hcs=>?_ | refine hA.Appw ?_ fun bb m ds hbb hm hds=>?_ | refine hA.Sapp ?_ fun sl hsl=>?_);rotate_left;cbv) | refine WL ?_ | fail
 all_goals try simp only [hA.sm,n_cast] at *
 all_goals first
  | omega
  | trivial
  | exact un_fin hA rfl
  | exact ⟨rfl,trivial⟩
  | (simp only [List.length_cons,List.length_nil];omega)
  | (simp only [List.length_append,List.length_cons,List.length_nil];omega)
  | exact congrArg (fun k=>O.front k 8) hn
  | exact congrArg (fun k=>O.front k 8) hn1
  | exact congrArg (fun k=>O.front k 8) hn3
  | exact congrArg (fun k=>O.front k 1) hnw
  | (refine ⟨?_,⟨rfl,trivial⟩,rfl⟩;simp only [List.length_append,List.length_cons,List.length_nil] at *;omega))
theorem us10 (T M:Int) (Ex:List (Int×Int)) (Exs:List (List (Int×Int))) (L R:Int) (x xe ye:List (List E)) (xt:List (List E)) (hxe:xe=Ex.map orow) (hye:ye=Exs.map orr) (hel:Ex.length<=1048576) (hyl:Exs.length<=1048576) (hyy: ∀e∈Exs,e.length<=1048576) (i d w:Int) (hi:0<=i/\i<x.length) (es:List (List E)) (n:Nat) (hn:n=es.length) (hlen:n<=1000000) (es1:List (List E)) (n1:Nat) (hn1:n1=es1.length) (p1:Int) (hb1:n1<=1000000) (es3:List (List E)) (n3:Nat) (hn3:n3=es3.length) (p3:Int) (hb3:n3<=1000000) (es2:List (List E)) (n2:Nat) (hn2:n2=es2.length) (p2:Int) (hp2:p2=es3.length) (he2:es2=es3++ [[E.int 9,E.int 0,E.int 0,E.int 0,E.sl xe,E.sl [],E.int p1,E.int p3]]) (q1:x.getD i.toNat []= [E.int 10,E.int T,E.int M,E.sl xe,E.sl ye,E.int L,E.int R]) (h1:US (.sl x) (.sl xt) L d w es n es1 n1 p1) (h2:US (.sl x) (.sl xt) R d w es1 n1 es3 n3 p3):
  US (.sl x) (.sl xt) i d w es n es2 n2 p2:=procOf mixed p34 un_side fun A P hA hP=>(by
 have k1:A.eq 10 1=false:=hA.eq _ _
 have k2:A.eq 10 2=false:=hA.eq _ _
 have k3:A.eq 10 3=false:=hA.eq _ _
 have k4:A.eq 10 4=false:=hA.eq _ _
 have k9:A.eq 10 9=false:=hA.eq _ _
 have k5:A.eq 10 5=false:=hA.eq _ _
 have k10:A.eq 10 10=true:=hA.eq _ _
 have k7:A.eq 10 7=false:=hA.eq _ _
 have k8:A.eq 10 8=false:=hA.eq _ _
 have hl2:es2.length=es3.length+1:=by rw [he2];simp
 obtain ⟨z2,hz2⟩: ∃z:Int,z=es2.length:=⟨_,rfl⟩
 have hq2:p2=A.sub z2 1:=by rw [hA.sub];omega
 have h296:=ok81 Ex xe hxe (by rw [hxe,List.length_map];exact hel)
 cbv
 repeat' first | exact W1 | (simp only [k1,k2,k3,k4,k9,k5,k10,k7,k8,<-hq2];cbv) | refine WA ?_ ?_ | with_reducible intro hcc | refine WS ?_ | (refine hA.RowE hi q1 ?_;cbv) | ((with_reducible refine hA.st [_,_,_,_,_,_,_] _ _ _ _ ⟨?_,fun ds hds=>?_⟩);rotate_left;subst hds;cbv) | ((with_reducible show A.call _ _ _ _ _ 34 _ _ _);have hc:=h1;refine callK_pr hA hP [0] (by rfl) (by exact ⟨rfl,trivial⟩) (Wks.refl _) ?_ (fun _ _=>hc) hc.side;cbv) | ((with_reducible show A.call _ _ _ _ _ 34 _ _ _);have hc:=h2;refine callK_pr hA hP [0] (by rfl) (by exact ⟨rfl,trivial⟩) (Wks.refl _) ?_ (fun _ _=>hc) hc.side;cbv) | refine WK hA hP ?_ | ((with_reducible refine hA.app es3 _ _ _ _ ⟨?_,fun zs m hzs hm=>?_⟩);rotate_left;(have g:=he2.trans hzs.symm);subst g;(have g:=hn2.trans hm.symm);subst g;cbv) | (refine hA.LenE hz2 fun hb=>?_;cbv) | refine W6 ?_ | ((with_reducible first | refine hA.Len fun z hz hb=>?_ | refine hA.Off fun b hb=>?_ | refine hA.Plus fun b hb=>?_ | refine hA.gb _ _ fun vb hvb=>?_);cbv) | ((with_reducible first | refine hA.App ?_ fun zs m hzs hm=>?_ | refine hA.App0 ?_ fun m hm=>?_ | refine hA.Sto ?_ fun ds hds=>?_ | refine hA.Appv ?_ fun bb m ds hbb hm hds=>?_ | refine hA.Vcut ?_ fun cs hcs=>?_ | refine hA.Appw ?_ fun bb m ds hbb hm hds=>?_ | refine hA.Sapp ?_ fun sl hsl=>?_);rotate_left;cbv) | refine WL ?_ | fail
 all_goals try simp only [hA.sm,n_cast] at *
 all_goals first
  | omega
  | trivial
  | exact un_fin hA rfl
  | exact ⟨rfl,trivial⟩
  | (simp only [List.length_cons,List.length_nil];omega)
  | (simp only [List.length_append,List.length_cons,List.length_nil];omega)
  | exact congrArg (fun k=>O.front k 8) hn
  | exact congrArg (fun k=>O.front k 8) hn1
  | exact congrArg (fun k=>O.front k 8) hn3
  | exact congrArg (fun k=>O.front k 1) hnw
  | (refine ⟨?_,⟨rfl,trivial⟩,rfl⟩;simp only [List.length_append,List.length_cons,List.length_nil] at *;omega))
theorem us6 (T M:Int) (Ex:List (Int×Int)) (Exs:List (List (Int×Int))) (L R:Int) (x xe ye:List (List E)) (xt:List (List E)) (hxe:xe=Ex.map orow) (hye:ye=Exs.map orr) (hel:Ex.length<=1048576) (hyl:Exs.length<=1048576) (hyy: ∀e∈Exs,e.length<=1048576) (i d w:Int) (hi:0<=i/\i<x.length) (es:List (List E)) (n:Nat) (hn:n=es.length) (hlen:n<=1000000) (es1:List (List E)) (n1:Nat) (hn1:n1=es1.length) (p1:Int) (hb1:n1<=1000000) (es4:List (List E)) (n4:Nat) (hn4:n4=es4.length) (he4:es4=es1++ [[E.int 8,E.int 0,E.int 0,E.int 0,E.sl [],E.sl [],E.int p1,E.int 0]]) (d2:Int) (hd2:d2=es1.length) (wl w2:Int) (hw2:w2=w+wl) (hw:0<=w/\w<=1000/\0<=wl/\wl<=1000) (es3:List (List E)) (n3:Nat) (hn3:n3=es3.length) (p3:Int) (hb3:n3<=1000000) (es2:List (List E)) (n2:Nat) (hn2:n2=es2.length) (p2:Int) (hp2:p2=es3.length) (he2:es2=es3++ [[E.int 5,E.int 0,E.int M,E.int w2,E.sl xe,E.sl [],E.int p1,E.int p3]]) (q1:x.getD i.toNat []= [E.int 6,E.int T,E.int M,E.sl xe,E.sl ye,E.int L,E.int R]) (h1:US (.sl x) (.sl xt) L d w es n es1 n1 p1) (hl:Plain Tryz.prog 80 [.agg [.e (.sl x)],.agg [.e (.sl xt)],.int L,.int w] (.int wl)) (h2:US (.sl x) (.sl xt) R d2 w2 es4 n4 es3 n3 p3):
  US (.sl x) (.sl xt) i d w es n es2 n2 p2:=procOf mixed p34 un_side fun A P hA hP=>(by
 have k1:A.eq 6 1=false:=hA.eq _ _
 have k2:A.eq 6 2=false:=hA.eq _ _
 have k3:A.eq 6 3=false:=hA.eq _ _
 have k4:A.eq 6 4=false:=hA.eq _ _
 have k9:A.eq 6 9=false:=hA.eq _ _
 have k5:A.eq 6 5=false:=hA.eq _ _
 have k10:A.eq 6 10=false:=hA.eq _ _
 have k7:A.eq 6 7=false:=hA.eq _ _
 have k8:A.eq 6 8=false:=hA.eq _ _
 have hl2:es2.length=es3.length+1:=by rw [he2];simp
 obtain ⟨z2,hz2⟩: ∃z:Int,z=es2.length:=⟨_,rfl⟩
 have hq2:p2=A.sub z2 1:=by rw [hA.sub];omega
 have h296:=ok81 Ex xe hxe (by rw [hxe,List.length_map];exact hel)
 have hl4:es4.length=es1.length+1:=by rw [he4];simp
 obtain ⟨z4,hz4⟩: ∃z:Int,z=es4.length:=⟨_,rfl⟩
 have hqd:d2=A.sub z4 1:=by rw [hA.sub];omega
 have hqw:w2=A.add w wl:=by rw [hA.add];omega
 cbv
 repeat' first | exact W1 | (simp only [k1,k2,k3,k4,k9,k5,k10,k7,k8,<-hqd,<-hqw,<-hq2];cbv) | refine WA ?_ ?_ | with_reducible intro hcc | refine WS ?_ | (refine hA.RowE hi q1 ?_;cbv) | ((with_reducible refine hA.st [_,_,_,_,_,_,_] _ _ _ _ ⟨?_,fun ds hds=>?_⟩);rotate_left;subst hds;cbv) | ((with_reducible show A.call _ _ _ _ _ 34 _ _ _);have hc:=h1;refine callK_pr hA hP [0] (by rfl) (by exact ⟨rfl,trivial⟩) (Wks.refl _) ?_ (fun _ _=>hc) hc.side;cbv) | refine WK hA hP ?_ | ((with_reducible refine hA.app es1 _ _ _ _ ⟨?_,fun zs m hzs hm=>?_⟩);rotate_left;(have g:=he4.trans hzs.symm);subst g;(have g:=hn4.trans hm.symm);subst g;cbv) | (refine hA.LenE hz4 fun hb=>?_;cbv) | ((with_reducible show A.call _ _ _ _ _ 34 _ _ _);have hc:=h2;refine callK_pr hA hP [0] (by rfl) (by exact ⟨rfl,trivial⟩) (Wks.refl _) ?_ (fun _ _=>hc) hc.side;cbv) | ((with_reducible refine hA.app es3 _ _ _ _ ⟨?_,fun zs m hzs hm=>?_⟩);rotate_left;(have g:=he2.trans hzs.symm);subst g;(have g:=hn2.trans hm.symm);subst g;cbv) | (refine hA.LenE hz2 fun hb=>?_;cbv) | refine W6 ?_ | ((with_reducible first | refine hA.Len fun z hz hb=>?_ | refine hA.Off fun b hb=>?_ | refine hA.Plus fun b hb=>?_ | refine hA.gb _ _ fun vb hvb=>?_);cbv) | ((with_reducible first | refine hA.App ?_ fun zs m hzs hm=>?_ | refine hA.App0 ?_ fun m hm=>?_ | refine hA.Sto ?_ fun ds hds=>?_ | refine hA.Appv ?_ fun bb m ds hbb hm hds=>?_ | refine hA.Vcut ?_ fun cs hcs=>?_ | refine hA.Appw ?_ fun bb m ds hbb hm hds=>?_ | refine hA.Sapp ?_ fun sl hsl=>?_);rotate_left;cbv) | refine WL ?_ | fail
 all_goals try simp only [hA.sm,n_cast] at *
 all_goals first
  | omega
  | trivial
  | exact un_fin hA rfl
  | exact ⟨rfl,trivial⟩
  | (simp only [List.length_cons,List.length_nil];omega)
  | (simp only [List.length_append,List.length_cons,List.length_nil];omega)
  | exact congrArg (fun k=>O.front k 8) hn
  | exact congrArg (fun k=>O.front k 8) hn1
  | exact congrArg (fun k=>O.front k 8) hn3
  | exact congrArg (fun k=>O.front k 1) hnw
  | (refine ⟨?_,⟨rfl,trivial⟩,rfl⟩;simp only [List.length_append,List.length_cons,List.length_nil] at *;omega))
theorem us7 (T M:Int) (Ex:List (Int×Int)) (Exs:List (List (Int×Int))) (L R:Int) (x xe ye:List (List E)) (xt:List (List E)) (hxe:xe=Ex.map orow) (hye:ye=Exs.map orr) (hel:Ex.length<=1048576) (hyl:Exs.length<=1048576) (hyy: ∀e∈Exs,e.length<=1048576) (i d w:Int) (hi:0<=i/\i<x.length) (es:List (List E)) (n:Nat) (hn:n=es.length) (hlen:n<=1000000) (es1:List (List E)) (n1:Nat) (hn1:n1=es1.length) (p1:Int) (hb1:n1<=1000000) (es4:List (List E)) (n4:Nat) (hn4:n4=es4.length) (he4:es4=es1++ [[E.int 8,E.int 0,E.int 0,E.int 0,E.sl [],E.sl [],E.int p1,E.int 0]]) (d2:Int) (hd2:d2=es1.length) (wl w2:Int) (hw2:w2=w+wl) (hw:0<=w/\w<=1000/\0<=wl/\wl<=1000) (es3:List (List E)) (n3:Nat) (hn3:n3=es3.length) (p3:Int) (hb3:n3<=1000000) (es2:List (List E)) (n2:Nat) (hn2:n2=es2.length) (p2:Int) (hp2:p2=es3.length) (he2:es2=es3++ [[E.int 6,E.int 0,E.int M,E.int w2,E.sl xe,E.sl [],E.int p1,E.int p3]]) (q1:x.getD i.toNat []= [E.int 7,E.int T,E.int M,E.sl xe,E.sl ye,E.int L,E.int R]) (h1:US (.sl x) (.sl xt) L d w es n es1 n1 p1) (hl:Plain Tryz.prog 80 [.agg [.e (.sl x)],.agg [.e (.sl xt)],.int L,.int w] (.int wl)) (h2:US (.sl x) (.sl xt) R d2 w2 es4 n4 es3 n3 p3):
  US (.sl x) (.sl xt) i d w es n es2 n2 p2:=procOf mixed p34 un_side fun A P hA hP=>(by
 have k1:A.eq 7 1=false:=hA.eq _ _
 have k2:A.eq 7 2=false:=hA.eq _ _
 have k3:A.eq 7 3=false:=hA.eq _ _
 have k4:A.eq 7 4=false:=hA.eq _ _
 have k9:A.eq 7 9=false:=hA.eq _ _
 have k5:A.eq 7 5=false:=hA.eq _ _
 have k10:A.eq 7 10=false:=hA.eq _ _
 have k7:A.eq 7 7=true:=hA.eq _ _
 have k8:A.eq 7 8=false:=hA.eq _ _
 have hl2:es2.length=es3.length+1:=by rw [he2];simp
 obtain ⟨z2,hz2⟩: ∃z:Int,z=es2.length:=⟨_,rfl⟩
 have hq2:p2=A.sub z2 1:=by rw [hA.sub];omega
 have h296:=ok81 Ex xe hxe (by rw [hxe,List.length_map];exact hel)
 have hl4:es4.length=es1.length+1:=by rw [he4];simp
 obtain ⟨z4,hz4⟩: ∃z:Int,z=es4.length:=⟨_,rfl⟩
 have hqd:d2=A.sub z4 1:=by rw [hA.sub];omega
 have hqw:w2=A.add w wl:=by rw [hA.add];omega
 cbv
 repeat' first | exact W1 | (simp only [k1,k2,k3,k4,k9,k5,k10,k7,k8,<-hqd,<-hqw,<-hq2];cbv) | refine WA ?_ ?_ | with_reducible intro hcc | refine WS ?_ | (refine hA.RowE hi q1 ?_;cbv) | ((with_reducible refine hA.st [_,_,_,_,_,_,_] _ _ _ _ ⟨?_,fun ds hds=>?_⟩);rotate_left;subst hds;cbv) | ((with_reducible show A.call _ _ _ _ _ 34 _ _ _);have hc:=h1;refine callK_pr hA hP [0] (by rfl) (by exact ⟨rfl,trivial⟩) (Wks.refl _) ?_ (fun _ _=>hc) hc.side;cbv) | refine WK hA hP ?_ | ((with_reducible refine hA.app es1 _ _ _ _ ⟨?_,fun zs m hzs hm=>?_⟩);rotate_left;(have g:=he4.trans hzs.symm);subst g;(have g:=hn4.trans hm.symm);subst g;cbv) | (refine hA.LenE hz4 fun hb=>?_;cbv) | ((with_reducible show A.call _ _ _ _ _ 34 _ _ _);have hc:=h2;refine callK_pr hA hP [0] (by rfl) (by exact ⟨rfl,trivial⟩) (Wks.refl _) ?_ (fun _ _=>hc) hc.side;cbv) | ((with_reducible refine hA.app es3 _ _ _ _ ⟨?_,fun zs m hzs hm=>?_⟩);rotate_left;(have g:=he2.trans hzs.symm);subst g;(have g:=hn2.trans hm.symm);subst g;cbv) | (refine hA.LenE hz2 fun hb=>?_;cbv) | refine W6 ?_ | ((with_reducible first | refine hA.Len fun z hz hb=>?_ | refine hA.Off fun b hb=>?_ | refine hA.Plus fun b hb=>?_ | refine hA.gb _ _ fun vb hvb=>?_);cbv) | ((with_reducible first | refine hA.App ?_ fun zs m hzs hm=>?_ | refine hA.App0 ?_ fun m hm=>?_ | refine hA.Sto ?_ fun ds hds=>?_ | refine hA.Appv ?_ fun bb m ds hbb hm hds=>?_ | refine hA.Vcut ?_ fun cs hcs=>?_ | refine hA.Appw ?_ fun bb m ds hbb hm hds=>?_ | refine hA.Sapp ?_ fun sl hsl=>?_);rotate_left;cbv) | refine WL ?_ | fail
 all_goals try simp only [hA.sm,n_cast] at *
 all_goals first
  | omega
  | trivial
  | exact un_fin hA rfl
  | exact ⟨rfl,trivial⟩
  | (simp only [List.length_cons,List.length_nil];omega)
  | (simp only [List.length_append,List.length_cons,List.length_nil];omega)
  | exact congrArg (fun k=>O.front k 8) hn
  | exact congrArg (fun k=>O.front k 8) hn1
  | exact congrArg (fun k=>O.front k 8) hn3
  | exact congrArg (fun k=>O.front k 1) hnw
  | (refine ⟨?_,⟨rfl,trivial⟩,rfl⟩;simp only [List.length_append,List.length_cons,List.length_nil] at *;omega))
theorem us8 (T M:Int) (Ex:List (Int×Int)) (Exs:List (List (Int×Int))) (L R:Int) (x xe ye:List (List E)) (xt:List (List E)) (hxe:xe=Ex.map orow) (hye:ye=Exs.map orr) (hel:Ex.length<=1048576) (hyl:Exs.length<=1048576) (hyy: ∀e∈Exs,e.length<=1048576) (i d w:Int) (hi:0<=i/\i<x.length) (es:List (List E)) (n:Nat) (hn:n=es.length) (hlen:n<=1000000) (es1:List (List E)) (n1:Nat) (hn1:n1=es1.length) (p1:Int) (hb1:n1<=1000000) (es4:List (List E)) (n4:Nat) (hn4:n4=es4.length) (he4:es4=es1++ [[E.int 8,E.int 0,E.int 0,E.int 0,E.sl [],E.sl [],E.int p1,E.int 0]]) (d2:Int) (hd2:d2=es1.length) (wl w2:Int) (hw2:w2=w+wl) (hw:0<=w/\w<=1000/\0<=wl/\wl<=1000) (es3:List (List E)) (n3:Nat) (hn3:n3=es3.length) (p3:Int) (hb3:n3<=1000000) (es2:List (List E)) (n2:Nat) (hn2:n2=es2.length) (p2:Int) (hp2:p2=es3.length) (he2:es2=es3++ [[E.int 7,E.int 0,E.int M,E.int w2,E.sl xe,E.sl [],E.int p1,E.int p3]]) (q1:x.getD i.toNat []= [E.int 8,E.int T,E.int M,E.sl xe,E.sl ye,E.int L,E.int R]) (h1:US (.sl x) (.sl xt) L d w es n es1 n1 p1) (hl:Plain Tryz.prog 80 [.agg [.e (.sl x)],.agg [.e (.sl xt)],.int L,.int w] (.int wl)) (h2:US (.sl x) (.sl xt) R d2 w2 es4 n4 es3 n3 p3):
  US (.sl x) (.sl xt) i d w es n es2 n2 p2:=procOf mixed p34 un_side fun A P hA hP=>(by
 have k1:A.eq 8 1=false:=hA.eq _ _
 have k2:A.eq 8 2=false:=hA.eq _ _
 have k3:A.eq 8 3=false:=hA.eq _ _
 have k4:A.eq 8 4=false:=hA.eq _ _
 have k9:A.eq 8 9=false:=hA.eq _ _
 have k5:A.eq 8 5=false:=hA.eq _ _
 have k10:A.eq 8 10=false:=hA.eq _ _
 have k7:A.eq 8 7=false:=hA.eq _ _
 have k8:A.eq 8 8=true:=hA.eq _ _
 have hl2:es2.length=es3.length+1:=by rw [he2];simp
 obtain ⟨z2,hz2⟩: ∃z:Int,z=es2.length:=⟨_,rfl⟩
 have hq2:p2=A.sub z2 1:=by rw [hA.sub];omega
 have h296:=ok81 Ex xe hxe (by rw [hxe,List.length_map];exact hel)
 have hl4:es4.length=es1.length+1:=by rw [he4];simp
 obtain ⟨z4,hz4⟩: ∃z:Int,z=es4.length:=⟨_,rfl⟩
 have hqd:d2=A.sub z4 1:=by rw [hA.sub];omega
 have hqw:w2=A.add w wl:=by rw [hA.add];omega
 cbv
 repeat' first | exact W1 | (simp only [k1,k2,k3,k4,k9,k5,k10,k7,k8,<-hqd,<-hqw,<-hq2];cbv) | refine WA ?_ ?_ | with_reducible intro hcc | refine WS ?_ | (refine hA.RowE hi q1 ?_;cbv) | ((with_reducible refine hA.st [_,_,_,_,_,_,_] _ _ _ _ ⟨?_,fun ds hds=>?_⟩);rotate_left;subst hds;cbv) | ((with_reducible show A.call _ _ _ _ _ 34 _ _ _);have hc:=h1;refine callK_pr hA hP [0] (by rfl) (by exact ⟨rfl,trivial⟩) (Wks.refl _) ?_ (fun _ _=>hc) hc.side;cbv) | refine WK hA hP ?_ | ((with_reducible refine hA.app es1 _ _ _ _ ⟨?_,fun zs m hzs hm=>?_⟩);rotate_left;(have g:=he4.trans hzs.symm);subst g;(have g:=hn4.trans hm.symm);subst g;cbv) | (refine hA.LenE hz4 fun hb=>?_;cbv) | ((with_reducible show A.call _ _ _ _ _ 34 _ _ _);have hc:=h2;refine callK_pr hA hP [0] (by rfl) (by exact ⟨rfl,trivial⟩) (Wks.refl _) ?_ (fun _ _=>hc) hc.side;cbv) | ((with_reducible refine hA.app es3 _ _ _ _ ⟨?_,fun zs m hzs hm=>?_⟩);rotate_left;(have g:=he2.trans hzs.symm);subst g;(have g:=hn2.trans hm.symm);subst g;cbv) | (refine hA.LenE hz2 fun hb=>?_;cbv) | refine W6 ?_ | ((with_reducible first | refine hA.Len fun z hz hb=>?_ | refine hA.Off fun b hb=>?_ | refine hA.Plus fun b hb=>?_ | refine hA.gb _ _ fun vb hvb=>?_);cbv) | ((with_reducible first | refine hA.App ?_ fun zs m hzs hm=>?_ | refine hA.App0 ?_ fun m hm=>?_ | refine hA.Sto ?_ fun ds hds=>?_ | refine hA.Appv ?_ fun bb m ds hbb hm hds=>?_ | refine hA.Vcut ?_ fun cs hcs=>?_ | refine hA.Appw ?_ fun bb m ds hbb hm hds=>?_ | refine hA.Sapp ?_ fun sl hsl=>?_);rotate_left;cbv) | refine WL ?_ | fail
 all_goals try simp only [hA.sm,n_cast] at *
 all_goals first
  | omega
  | trivial
  | exact un_fin hA rfl
  | exact ⟨rfl,trivial⟩
  | (simp only [List.length_cons,List.length_nil];omega)
  | (simp only [List.length_append,List.length_cons,List.length_nil];omega)
  | exact congrArg (fun k=>O.front k 8) hn
  | exact congrArg (fun k=>O.front k 8) hn1
  | exact congrArg (fun k=>O.front k 8) hn3
  | exact congrArg (fun k=>O.front k 1) hnw
  | (refine ⟨?_,⟨rfl,trivial⟩,rfl⟩;simp only [List.length_append,List.length_cons,List.length_nil] at *;omega))
end Go.Proofs.YtfplalbognalkaaGreat.Ab
/- Unnesting by the specification, whole. -/
namespace Go.Proofs.YtfplalbognalkaaGreat.Ab
open Go
section
variable {ns:List Pd} {wl:Int->Int} {n:Nat} {i d w:Int} {out:List Fd} {T M:Int} {Ex:List (Int×Int)} {Exs:List (List (Int×Int))} {L R:Int}
theorem unF_1 (q:ns.getD i.toNat default=⟨1,T,M,Ex,Exs,L,R⟩):unF ns wl (n+1) i d w out=(out,d):=by simp only [unF,q];rfl
theorem unF_2 (q:ns.getD i.toNat default=⟨2,T,M,Ex,Exs,L,R⟩):unF ns wl (n+1) i d w out=((out++ [scanF T])++ [⟨5,0,0,0, [], [],d,out.length⟩],((out.length:Int)+1)):=by simp only [unF,q];rfl
theorem unF_3 (q:ns.getD i.toNat default=⟨3,T,M,Ex,Exs,L,R⟩):unF ns wl (n+1) i d w out=((unF ns wl n L d w out).1++ [⟨3,0,0,0,Ex, [],(unF ns wl n L d w out).2,0⟩],((unF ns wl n L d w out).1.length:Int)):=by simp only [unF,q];rfl
theorem unF_4 (q:ns.getD i.toNat default=⟨4,T,M,Ex,Exs,L,R⟩):unF ns wl (n+1) i d w out=((unF ns wl n L d w out).1++ [⟨4,0,0,0, [],colsE w++Exs,(unF ns wl n L d w out).2,0⟩],((unF ns wl n L d w out).1.length:Int)):=by simp only [unF,q];rfl
theorem unF_9 (q:ns.getD i.toNat default=⟨9,T,M,Ex,Exs,L,R⟩):unF ns wl (n+1) i d w out=((unF ns wl n L d w out).1++ [⟨8,0,0,0, [], [],(unF ns wl n L d w out).2,0⟩],((unF ns wl n L d w out).1.length:Int)):=by simp only [unF,q];rfl
theorem unF_5 (q:ns.getD i.toNat default=⟨5,T,M,Ex,Exs,L,R⟩):unF ns wl (n+1) i d w out=((unF ns wl n R d w (unF ns wl n L d w out).1).1++ [⟨5,0,0,w, [], [],(unF ns wl n L d w out).2,(unF ns wl n R d w (unF ns wl n L d w out).1).2⟩],((unF ns wl n R d w (unF ns wl n L d w out).1).1.length:Int)):=by simp only [unF,q];rfl
theorem unF_10 (q:ns.getD i.toNat default=⟨10,T,M,Ex,Exs,L,R⟩):unF ns wl (n+1) i d w out=((unF ns wl n R d w (unF ns wl n L d w out).1).1++ [⟨9,0,0,0, [], [],(unF ns wl n L d w out).2,(unF ns wl n R d w (unF ns wl n L d w out).1).2⟩],((unF ns wl n R d w (unF ns wl n L d w out).1).1.length:Int)):=by simp only [unF,q];rfl
theorem unF_6 (q:ns.getD i.toNat default=⟨6,T,M,Ex,Exs,L,R⟩):unF ns wl (n+1) i d w out=((unF ns wl n R (unF ns wl n L d w out).1.length (w+wl L) ((unF ns wl n L d w out).1++ [⟨8,0,0,0, [], [],(unF ns wl n L d w out).2,0⟩])).1++ [⟨5,0,M,w+wl L,Ex, [],(unF ns wl n L d w out).2,(unF ns wl n R (unF ns wl n L d w out).1.length (w+wl L) ((unF ns wl n L d w out).1++ [⟨8,0,0,0, [], [],(unF ns wl n L d w out).2,0⟩])).2⟩],((unF ns wl n R (unF ns wl n L d w out).1.length (w+wl L) ((unF ns wl n L d w out).1++ [⟨8,0,0,0, [], [],(unF ns wl n L d w out).2,0⟩])).1.length:Int)):=by simp only [unF,q];rfl
theorem unF_7 (q:ns.getD i.toNat default=⟨7,T,M,Ex,Exs,L,R⟩):unF ns wl (n+1) i d w out=((unF ns wl n R (unF ns wl n L d w out).1.length (w+wl L) ((unF ns wl n L d w out).1++ [⟨8,0,0,0, [], [],(unF ns wl n L d w out).2,0⟩])).1++ [⟨6,0,M,w+wl L,Ex, [],(unF ns wl n L d w out).2,(unF ns wl n R (unF ns wl n L d w out).1.length (w+wl L) ((unF ns wl n L d w out).1++ [⟨8,0,0,0, [], [],(unF ns wl n L d w out).2,0⟩])).2⟩],((unF ns wl n R (unF ns wl n L d w out).1.length (w+wl L) ((unF ns wl n L d w out).1++ [⟨8,0,0,0, [], [],(unF ns wl n L d w out).2,0⟩])).1.length:Int)):=by simp only [unF,q];rfl
theorem unF_8 (q:ns.getD i.toNat default=⟨8,T,M,Ex,Exs,L,R⟩):unF ns wl (n+1) i d w out=((unF ns wl n R (unF ns wl n L d w out).1.length (w+wl L) ((unF ns wl n L d w out).1++ [⟨8,0,0,0, [], [],(unF ns wl n L d w out).2,0⟩])).1++ [⟨7,0,M,w+wl L,Ex, [],(unF ns wl n L d w out).2,(unF ns wl n R (unF ns wl n L d w out).1.length (w+wl L) ((unF ns wl n L d w out).1++ [⟨8,0,0,0, [], [],(unF ns wl n L d w out).2,0⟩])).2⟩],((unF ns wl n R (unF ns wl n L d w out).1.length (w+wl L) ((unF ns wl n L d w out).1++ [⟨8,0,0,0, [], [],(unF ns wl n L d w out).2,0⟩])).1.length:Int)):=by simp only [unF,q];rfl
end
def Vd (ns:List Pd) (nt:Int) (cols:Int->Int) (i w:Int):Prop:=0<=w/\ ∃m:Nat,i<m/\0<=wS ns nt cols m i w
theorem Vd.low {ns:List Pd} {nt:Int} {cols:Int->Int} {i w:Int} (h:Vd ns nt cols i w):w<=200:=by
 obtain ⟨_,m,_,h⟩:=h
 have:=wS_rng h
 omega
theorem Vd.left {ns:List Pd} {nt:Int} {cols:Int->Int} {i w:Int} (hin:InP ns) (h0:0<=i) (h1:i<ns.length) (h:Vd ns nt cols i w) (hl:hasL (ns.getD i.toNat default).K=true):Vd ns nt cols (ns.getD i.toNat default).L w:=by
 obtain ⟨a,m,b,c⟩:=h
 match m,b,c with
 | 0,b,c=>omega
 | m+1,b,c=>
  obtain ⟨l,r,_,e1,e2,_⟩:=wS_step c
  rw [if_pos hl] at e1
  have:=(hin i h0 h1).2.1 hl
  exact ⟨a,m,by omega,by rw [<-e1];exact e2⟩
theorem Vd.right {ns:List Pd} {nt:Int} {cols:Int->Int} {i w:Int} (hin:InP ns) (h0:0<=i) (h1:i<ns.length) (h:Vd ns nt cols i w) (hl:hasL (ns.getD i.toNat default).K=true) (hr:hasR (ns.getD i.toNat default).K=true):Vd ns nt cols (ns.getD i.toNat default).R (if depK (ns.getD i.toNat default).K then w+pw ns cols (ns.getD i.toNat default).L else w):=by
 obtain ⟨a,m,b,c⟩:=h
 match m,b,c with
 | 0,b,c=>omega
 | m+1,b,c=>
  obtain ⟨l,r,_,e1,e2,e3,e4,_⟩:=wS_step c
  rw [if_pos hl] at e1
  rw [if_pos hr] at e3
  have kl:=(hin i h0 h1).2.1 hl
  have kr:=(hin i h0 h1).2.2 hr
  have el:l=pw ns cols (ns.getD i.toNat default).L:=by
   rw [e1,wS_pw hin m _ _ kl.1 (by omega) (by rw [<-e1];exact e2)]
   exact pwF_fuel hin _ _ _ kl.1 (by omega) (by omega) (by omega)
  rw [<-el]
  exact ⟨by split <;>omega,m,by omega,by rw [<-e3];exact e4⟩
theorem w243 {ns:List Pd} {x:List (List E)} (hx:x=ns.map pdr) (hlen: ∀d∈ns,d.Ex.length<=1048576/\d.Exs.length<=1048576/\ ∀e∈d.Exs,e.length<=1048576) {ts:List Tb} {xt:List (List E)} (hxt:xt=ts.map tbr) (pok:Pok ns ts) {i w:Int} (h0:0<=i) (h1:i<ns.length) (h:Vd ns ts.length (colsOf ts) i w):
  Plain Tryz.prog 80 [.agg [.e (.sl x)],.agg [.e (.sl xt)],.int i,.int w] (.int (pw ns (colsOf ts) i)):=by
 have hw:=h.low
 obtain ⟨a,m,b,c⟩:=h
 have:=ok80 ns x hx hlen ts xt hxt (cT_in pok.db) pok.inp m i w h0 b (by rw [hx,List.length_map];exact h1) a hw
 rw [wS_pw pok.inp m i w h0 h1 c,pwF_fuel pok.inp m (i.toNat+1) i h0 h1 b (by omega)] at this
 exact this
theorem us_ok {ns:List Pd} {x:List (List E)} (hx:x=ns.map pdr) (hlen: ∀d∈ns,d.Ex.length<=1048576/\d.Exs.length<=1048576/\ ∀e∈d.Exs,e.length<=1048576) {ts:List Tb} {xt:List (List E)} (hxt:xt=ts.map tbr) (pok:Pok ns ts):
  ∀(n:Nat) (i d w:Int) (out:List Fd),0<=i->i<n->i<ns.length->0<=d->d<out.length->out.length+2 * (i-fr ns i.toNat+1)<=10000->Vd ns ts.length (colsOf ts) i w->
   US (.sl x) (.sl xt) i d w (out.map fdr) out.length ((unF ns (pw ns (colsOf ts)) n i d w out).1.map fdr) (unF ns (pw ns (colsOf ts)) n i d w out).1.length (unF ns (pw ns (colsOf ts)) n i d w out).2
 | 0,i,d,w,out,h0,hn,_,_,_,_,_=>by omega
 | n+1,i,d,w,out,h0,hn,h1,hd0,hd1,hb,hv=>by
  have hfr:=pok.fr h0 h1
  have hin:=pok.inp
  have hi:0<=i/\i<x.length:=⟨h0,by rw [hx,List.length_map];exact h1⟩
  obtain ⟨K,T,M,Ex,Exs,L,R,xe,ye,q0,qm,hxe,hye,q1⟩:=pd_at hx hi
  have hl':=hlen _ qm
  obtain ⟨hK1,hKL,hKR⟩:=hin i h0 h1
  obtain ⟨t0,t1,t2⟩:=fr_two hfr
  have hus:=pok.used i.toNat (by omega)
  have vl:=hv.left hin h0 h1
  have vr:=hv.right hin h0 h1
  have hwb:=hv.low
  have hw0:=hv.1
  have hfl:=fr_le ns i.toNat
  rw [q0] at hK1 hKL hKR t0 t1 t2 hus vl vr
  simp only at hK1 hKL hKR t0 t1 t2 hl' vl vr
  obtain ⟨wl,hwl⟩: ∃f,f=pw ns (colsOf ts):=⟨_,rfl⟩
  have ih:=us_ok hx hlen hxt pok n
  have w3:=fun (j w:Int)=>w243 hx hlen hxt pok (i:=j) (w:=w)
  rw [<-hwl] at ih vr w3 ⊢
  have hpL:hasL K=true->0<=wl L/\wl L<=200:=fun h=>by
   have:=hKL h
   rw [hwl]
   exact pok.pw L this.1 (by omega)
  have ml: ∀(l:List Fd),(l.map fdr).length=l.length:=fun l=>List.length_map ..
  rcases (show K=1\/K=2\/K=3\/K=4\/K=9\/K=5\/K=10\/K=6\/K=7\/K=8 by omega) with rfl | rfl | rfl | rfl | rfl | rfl | rfl | rfl | rfl | rfl
  ·rw [unF_1 q0]
   exact us1 T M Ex Exs L R x xe ye xt hxe hye hl'.1 hl'.2.1 hl'.2.2 i d w hi _ _ (ml out).symm (by omega) q1
  ·have lt:=pok.T i h0 h1
   rw [unF_2 q0]
   have:=us2 T M Ex Exs L R x xe ye xt hxe hye hl'.1 hl'.2.1 hl'.2.2 i d w hi _ _ (ml out).symm (by omega) _ _ _ rfl rfl _ rfl _ rfl rfl q1
   simp only [List.map_append,List.map_cons,List.map_nil,List.length_append,List.length_map,List.length_cons,List.length_nil,scanF] at this ⊢
   exact this
  ·rw [unF_3 q0]
   have kl:=hKL rfl
   obtain ⟨r1,r2⟩:=t1 rfl rfl
   have e1:fr ns L.toNat=fr ns i.toNat:=by rw [r2,show L.toNat=i.toNat-1 by omega]
   obtain ⟨g1,g2,g3,g4⟩:=unF_len wl n L d w out kl.1 (by omega) (by rw [e1];exact hfr) hd0 hd1
   have c1:=ih L d w out kl.1 (by omega) (by omega) hd0 hd1 (by rw [e1];omega) (vl rfl)
   have:=us3 T M Ex Exs L R x xe ye xt hxe hye hl'.1 hl'.2.1 hl'.2.2 i d w hi _ _ (ml out).symm (by omega) _ _ (ml _).symm _ (by omega) _ _ rfl _ (by rw [ml]) rfl q1 c1
   rw [hxe] at this
   simp only [List.map_append,List.map_cons,List.map_nil,List.length_append,List.length_map,List.length_cons,List.length_nil] at this ⊢
   exact this
  ·rw [unF_4 q0]
   have kl:=hKL rfl
   obtain ⟨r1,r2⟩:=t1 rfl rfl
   have e1:fr ns L.toNat=fr ns i.toNat:=by rw [r2,show L.toNat=i.toNat-1 by omega]
   obtain ⟨g1,g2,g3,g4⟩:=unF_len wl n L d w out kl.1 (by omega) (by rw [e1];exact hfr) hd0 hd1
   have c1:=ih L d w out kl.1 (by omega) (by omega) hd0 hd1 (by rw [e1];omega) (vl rfl)
   have hus:Ex= []:=by simp [usedI] at hus;grind
   subst hus
   have hxe:xe= []:=hxe
   subst hxe
   have:=us4 T M [] Exs L R x [] ye xt rfl hye hl'.1 hl'.2.1 hl'.2.2 i d w hi _ _ (ml out).symm (by omega) _ _ (ml _).symm _ (by omega) _ _ rfl _ (by rw [ml]) (by omega) _ rfl _ rfl rfl q1 c1
   have e4:fdr (⟨4,0,0,0, [],colsE w++Exs,(unF ns wl n L d w out).2,0⟩:Fd)= [E.int 4,E.int 0,E.int 0,E.int 0,E.sl [],E.sl ((colsE w).map orr++Exs.map orr),E.int (unF ns wl n L d w out).2,E.int 0]:=by
    simp only [fdr,List.map_append]
    rfl
   simp only [List.map_append,List.map_cons,List.map_nil,List.length_append,List.length_map,List.length_cons,List.length_nil,hye] at this ⊢
   rw [e4]
   exact this
  ·rw [unF_9 q0]
   have kl:=hKL rfl
   obtain ⟨r1,r2⟩:=t1 rfl rfl
   have e1:fr ns L.toNat=fr ns i.toNat:=by rw [r2,show L.toNat=i.toNat-1 by omega]
   obtain ⟨g1,g2,g3,g4⟩:=unF_len wl n L d w out kl.1 (by omega) (by rw [e1];exact hfr) hd0 hd1
   have c1:=ih L d w out kl.1 (by omega) (by omega) hd0 hd1 (by rw [e1];omega) (vl rfl)
   have hus:Ex= []:=by simp [usedI] at hus;grind
   subst hus
   have hxe:xe= []:=hxe
   subst hxe
   have:=us9 T M [] Exs L R x [] ye xt rfl hye hl'.1 hl'.2.1 hl'.2.2 i d w hi _ _ (ml out).symm (by omega) _ _ (ml _).symm _ (by omega) _ _ rfl _ (by rw [ml]) rfl q1 c1
   simp only [List.map_append,List.map_cons,List.map_nil,List.length_append,List.length_map,List.length_cons,List.length_nil] at this ⊢
   exact this
  ·rw [unF_5 q0]
   have kl:=hKL rfl
   have kr:=hKR rfl
   obtain ⟨r1,r2,r3⟩:=t2 rfl rfl
   have e1:fr ns R.toNat=L+1:=by rw [show R.toNat=i.toNat-1 by omega];omega
   obtain ⟨g1,g2,g3,g4⟩:=unF_len wl n L d w out kl.1 (by omega) (by rw [<-r3];exact hfr) hd0 hd1
   have c1:=ih L d w out kl.1 (by omega) (by omega) hd0 hd1 (by rw [<-r3];omega) (vl rfl)
   have hus:Ex= []:=by simp [usedI] at hus;grind
   subst hus
   have hxe:xe= []:=hxe
   subst hxe
   obtain ⟨k1,k2,k3,k4⟩:=unF_len wl n R d w (unF ns wl n L d w out).1 kr.1 (by omega) (by rw [e1];omega) hd0 (by omega)
   have c2:=ih R d w (unF ns wl n L d w out).1 kr.1 (by omega) (by omega) hd0 (by omega) (by rw [e1];omega) (vr rfl rfl)
   have:=us5 T M [] Exs L R x [] ye xt rfl hye hl'.1 hl'.2.1 hl'.2.2 i d w hi _ _ (ml out).symm (by omega) _ _ (ml _).symm _ (by omega) _ _ (ml _).symm _ (by omega) _ _ rfl _ (by rw [ml]) rfl q1 c1 c2
   simp only [List.map_append,List.map_cons,List.map_nil,List.length_append,List.length_map,List.length_cons,List.length_nil] at this ⊢
   exact this
  ·rw [unF_10 q0]
   have kl:=hKL rfl
   have kr:=hKR rfl
   obtain ⟨r1,r2,r3⟩:=t2 rfl rfl
   have e1:fr ns R.toNat=L+1:=by rw [show R.toNat=i.toNat-1 by omega];omega
   obtain ⟨g1,g2,g3,g4⟩:=unF_len wl n L d w out kl.1 (by omega) (by rw [<-r3];exact hfr) hd0 hd1
   have c1:=ih L d w out kl.1 (by omega) (by omega) hd0 hd1 (by rw [<-r3];omega) (vl rfl)
   have hus:Ex= []:=by simp [usedI] at hus;grind
   subst hus
   have hxe:xe= []:=hxe
   subst hxe
   obtain ⟨k1,k2,k3,k4⟩:=unF_len wl n R d w (unF ns wl n L d w out).1 kr.1 (by omega) (by rw [e1];omega) hd0 (by omega)
   have c2:=ih R d w (unF ns wl n L d w out).1 kr.1 (by omega) (by omega) hd0 (by omega) (by rw [e1];omega) (vr rfl rfl)
   have:=us10 T M [] Exs L R x [] ye xt rfl hye hl'.1 hl'.2.1 hl'.2.2 i d w hi _ _ (ml out).symm (by omega) _ _ (ml _).symm _ (by omega) _ _ (ml _).symm _ (by omega) _ _ rfl _ (by rw [ml]) rfl q1 c1 c2
   simp only [List.map_append,List.map_cons,List.map_nil,List.length_append,List.length_map,List.length_cons,List.length_nil] at this ⊢
   exact this
  ·rw [unF_6 q0]
   have kl:=hKL rfl
   have kr:=hKR rfl
   obtain ⟨r1,r2,r3⟩:=t2 rfl rfl
   have e1:fr ns R.toNat=L+1:=by rw [show R.toNat=i.toNat-1 by omega];omega
   obtain ⟨g1,g2,g3,g4⟩:=unF_len wl n L d w out kl.1 (by omega) (by rw [<-r3];exact hfr) hd0 hd1
   have c1:=ih L d w out kl.1 (by omega) (by omega) hd0 hd1 (by rw [<-r3];omega) (vl rfl)
   have hq4:((unF ns wl n L d w out).1++ [(⟨8,0,0,0, [], [],(unF ns wl n L d w out).2,0⟩:Fd)]).length=(unF ns wl n L d w out).1.length+1:=by simp
   have pl:=hpL rfl
   obtain ⟨k1,k2,k3,k4⟩:=unF_len wl n R (unF ns wl n L d w out).1.length (w+wl L) ((unF ns wl n L d w out).1++ [⟨8,0,0,0, [], [],(unF ns wl n L d w out).2,0⟩]) kr.1 (by omega) (by rw [e1];omega) (by omega) (by omega)
   have c2:=ih R (unF ns wl n L d w out).1.length (w+wl L) ((unF ns wl n L d w out).1++ [⟨8,0,0,0, [], [],(unF ns wl n L d w out).2,0⟩]) kr.1 (by omega) (by omega) (by omega) (by omega) (by rw [e1];omega) (vr rfl rfl)
   have c3:=w3 L w kl.1 (by omega) (vl rfl)
   have hus:Ex= []:=by simp [usedI] at hus;grind
   subst hus
   have hxe:xe= []:=hxe
   subst hxe
   have:=us6 T M [] Exs L R x [] ye xt rfl hye hl'.1 hl'.2.1 hl'.2.2 i d w hi _ _ (ml out).symm (by omega) _ _ (ml _).symm _ (by omega) _ _ (ml _).symm (by rw [List.map_append];rfl) _ (by rw [ml]) _ _ rfl (by omega) _ _ (ml _).symm _ (by omega) _ _ rfl _ (by rw [ml]) rfl q1 c1 c3 c2
   simp only [List.map_append,List.map_cons,List.map_nil,List.length_append,List.length_map,List.length_cons,List.length_nil] at this ⊢
   exact this
  ·rw [unF_7 q0]
   have kl:=hKL rfl
   have kr:=hKR rfl
   obtain ⟨r1,r2,r3⟩:=t2 rfl rfl
   have e1:fr ns R.toNat=L+1:=by rw [show R.toNat=i.toNat-1 by omega];omega
   obtain ⟨g1,g2,g3,g4⟩:=unF_len wl n L d w out kl.1 (by omega) (by rw [<-r3];exact hfr) hd0 hd1
   have c1:=ih L d w out kl.1 (by omega) (by omega) hd0 hd1 (by rw [<-r3];omega) (vl rfl)
   have hq4:((unF ns wl n L d w out).1++ [(⟨8,0,0,0, [], [],(unF ns wl n L d w out).2,0⟩:Fd)]).length=(unF ns wl n L d w out).1.length+1:=by simp
   have pl:=hpL rfl
   obtain ⟨k1,k2,k3,k4⟩:=unF_len wl n R (unF ns wl n L d w out).1.length (w+wl L) ((unF ns wl n L d w out).1++ [⟨8,0,0,0, [], [],(unF ns wl n L d w out).2,0⟩]) kr.1 (by omega) (by rw [e1];omega) (by omega) (by omega)
   have c2:=ih R (unF ns wl n L d w out).1.length (w+wl L) ((unF ns wl n L d w out).1++ [⟨8,0,0,0, [], [],(unF ns wl n L d w out).2,0⟩]) kr.1 (by omega) (by omega) (by omega) (by omega) (by rw [e1];omega) (vr rfl rfl)
   have c3:=w3 L w kl.1 (by omega) (vl rfl)
   have:=us7 T M Ex Exs L R x xe ye xt hxe hye hl'.1 hl'.2.1 hl'.2.2 i d w hi _ _ (ml out).symm (by omega) _ _ (ml _).symm _ (by omega) _ _ (ml _).symm (by rw [List.map_append];rfl) _ (by rw [ml]) _ _ rfl (by omega) _ _ (ml _).symm _ (by omega) _ _ rfl _ (by rw [ml]) rfl q1 c1 c3 c2
   rw [hxe] at this
   simp only [List.map_append,List.map_cons,List.map_nil,List.length_append,List.length_map,List.length_cons,List.length_nil] at this ⊢
   exact this
  ·rw [unF_8 q0]
   have kl:=hKL rfl
   have kr:=hKR rfl
   obtain ⟨r1,r2,r3⟩:=t2 rfl rfl
   have e1:fr ns R.toNat=L+1:=by rw [show R.toNat=i.toNat-1 by omega];omega
   obtain ⟨g1,g2,g3,g4⟩:=unF_len wl n L d w out kl.1 (by omega) (by rw [<-r3];exact hfr) hd0 hd1
   have c1:=ih L d w out kl.1 (by omega) (by omega) hd0 hd1 (by rw [<-r3];omega) (vl rfl)
   have hq4:((unF ns wl n L d w out).1++ [(⟨8,0,0,0, [], [],(unF ns wl n L d w out).2,0⟩:Fd)]).length=(unF ns wl n L d w out).1.length+1:=by simp
   have pl:=hpL rfl
   obtain ⟨k1,k2,k3,k4⟩:=unF_len wl n R (unF ns wl n L d w out).1.length (w+wl L) ((unF ns wl n L d w out).1++ [⟨8,0,0,0, [], [],(unF ns wl n L d w out).2,0⟩]) kr.1 (by omega) (by rw [e1];omega) (by omega) (by omega)
   have c2:=ih R (unF ns wl n L d w out).1.length (w+wl L) ((unF ns wl n L d w out).1++ [⟨8,0,0,0, [], [],(unF ns wl n L d w out).2,0⟩]) kr.1 (by omega) (by omega) (by omega) (by omega) (by rw [e1];omega) (vr rfl rfl)
   have c3:=w3 L w kl.1 (by omega) (vl rfl)
   have:=us8 T M Ex Exs L R x xe ye xt hxe hye hl'.1 hl'.2.1 hl'.2.2 i d w hi _ _ (ml out).symm (by omega) _ _ (ml _).symm _ (by omega) _ _ (ml _).symm (by rw [List.map_append];rfl) _ (by rw [ml]) _ _ rfl (by omega) _ _ (ml _).symm _ (by omega) _ _ rfl _ (by rw [ml]) rfl q1 c1 c3 c2
   rw [hxe] at this
   simp only [List.map_append,List.map_cons,List.map_nil,List.length_append,List.length_map,List.length_cons,List.length_nil] at this ⊢
   exact this
end Go.Proofs.YtfplalbognalkaaGreat.Ab
/- Plans made flat by the program, with numbers: the plain law. -/
namespace Go.Proofs.YtfplalbognalkaaGreat.Ab
open Go
def noX:Nx:=(0, [])
def noXs:Nxs:=(0, [])
def unN (ns:List Pd) (wl:Int->Int):Nat->Int->Int->Int->Nat×List Nf->(Nat×List Nf)×Int
 | 0,_,d,_,s=>(s,d)
 | n+1,i,d,w,s=>
  let a:=ns.getD i.toNat default
  if a.K=1 then (s,d)
  else if a.K=2 then ((s.1,(s.2++ [⟨2,a.T,0,0,noX,noXs,0,0⟩])++ [⟨5,0,0,0,noX,noXs,d,s.2.length⟩]),s.2.length+1)
  else
   let p:=unN ns wl n a.L d w s
   if a.K=3 then ((p.1.1+1,p.1.2++ [⟨3,0,0,0,(p.1.1,a.Ex),noXs,p.2,0⟩]),p.1.2.length)
   else if a.K=4 then ((p.1.1+w.toNat+a.Exs.length+2,p.1.2++ [⟨4,0,0,0,noX,(p.1.1+w.toNat+a.Exs.length+1,numL nX one1 p.1.1 (colsE w++a.Exs)),p.2,0⟩]),p.1.2.length)
   else if a.K=9 then ((p.1.1,p.1.2++ [⟨8,0,0,0,noX,noXs,p.2,0⟩]),p.1.2.length)
   else if a.K=5\/a.K=10 then
    let q:=unN ns wl n a.R d w p.1
    ((q.1.1,q.1.2++ [⟨if a.K=5 then 5 else 9,0,0,if a.K=5 then w else 0,noX,noXs,p.2,q.2⟩]),q.1.2.length)
   else
    let q:=unN ns wl n a.R p.1.2.length (w+wl a.L) (p.1.1,p.1.2++ [⟨8,0,0,0,noX,noXs,p.2,0⟩])
    if a.K=6 then ((q.1.1,q.1.2++ [⟨5,0,0,w+wl a.L,noX,noXs,p.2,q.2⟩]),q.1.2.length)
    else if a.K=7 then ((q.1.1+1,q.1.2++ [⟨6,0,0,w+wl a.L,(q.1.1,a.Ex),noXs,p.2,q.2⟩]),q.1.2.length)
    else ((q.1.1+1,q.1.2++ [⟨7,0,a.M,w+wl a.L,(q.1.1,a.Ex),noXs,p.2,q.2⟩]),q.1.2.length)
theorem numX_snd: ∀(q:Nat) (l:List (List (Int×Int))),(numL nX one1 q l).map Prod.snd=l
 | _, []=>rfl
 | q,a::l=>by rw [numL,List.map_cons,numX_snd _ l];rfl
theorem unN_d {ns:List Pd} (wl:Int->Int) (hin:InP ns) (hu: ∀j:Nat,j<ns.length->usedI (ns.getD j default)=true): ∀(n:Nat) (i d w:Int) (s:Nat×List Nf),0<=i->i<ns.length->i<n->
  (unN ns wl n i d w s).1.2.map Nf.d=(unF ns wl n i d w (s.2.map Nf.d)).1/\(unN ns wl n i d w s).2=(unF ns wl n i d w (s.2.map Nf.d)).2
 | 0,i,d,w,s,h0,_,h=>by omega
 | n+1,i,d,w,s,h0,h1,h=>by
  obtain ⟨hk,hl,hr⟩:=hin i h0 h1
  have hu':=hu i.toNat (by omega)
  simp only [unF,unN]
  obtain ⟨a,ha⟩: ∃a,a=ns.getD i.toNat default:=⟨_,rfl⟩
  rw [<-ha] at hk hl hr hu' ⊢
  by_cases c1:a.K=1
  ·rw [if_pos c1,if_pos c1]
   exact ⟨rfl,rfl⟩
  rw [if_neg c1,if_neg c1]
  by_cases c2:a.K=2
  ·rw [if_pos c2,if_pos c2]
   simp [Nf.d,noX,noXs,scanF]
  rw [if_neg c2,if_neg c2]
  have hL:hasL a.K=true:=by simp [hasL];omega
  have hl:=hl hL
  obtain ⟨g1,g2⟩:=unN_d wl hin hu n a.L d w s hl.1 (by omega) (by omega)
  obtain ⟨p,hp⟩: ∃p,p=unN ns wl n a.L d w s:=⟨_,rfl⟩
  obtain ⟨p',hp'⟩: ∃p,p=unF ns wl n a.L d w (s.2.map Nf.d):=⟨_,rfl⟩
  rw [<-hp,<-hp'] at g1 g2 ⊢
  have g3:p'.1.length=p.1.2.length:=by rw [<-g1,List.length_map]
  by_cases c3:a.K=3
  ·rw [if_pos c3,if_pos c3]
   simp [Nf.d,noX,noXs,g1,g2,g3]
  rw [if_neg c3,if_neg c3]
  by_cases c4:a.K=4
  ·rw [if_pos c4,if_pos c4]
   simp [Nf.d,noX,noXs,g1,g2,g3,numX_snd]
  rw [if_neg c4,if_neg c4]
  by_cases c9:a.K=9
  ·rw [if_pos c9,if_pos c9]
   simp [Nf.d,noX,noXs,g1,g2,g3]
  rw [if_neg c9,if_neg c9]
  have hR:hasR a.K=true:=by simp [hasR];omega
  have hr:=hr hR
  by_cases c5:a.K=5\/a.K=10
  ·rw [if_pos c5,if_pos c5]
   obtain ⟨k1,k2⟩:=unN_d wl hin hu n a.R d w p.1 hr.1 (by omega) (by omega)
   rw [g1] at k1 k2
   have k3:=congrArg List.length k1
   rw [List.length_map] at k3
   simp [Nf.d,noX,noXs,g2,k1,k2,k3]
  rw [if_neg c5,if_neg c5]
  obtain ⟨k1,k2⟩:=unN_d wl hin hu n a.R p.1.2.length (w+wl a.L) (p.1.1,p.1.2++ [⟨8,0,0,0,noX,noXs,p.2,0⟩]) hr.1 (by omega) (by omega)
  have e8:(p.1.2++ [(⟨8,0,0,0,noX,noXs,p.2,0⟩:Nf)]).map Nf.d=p'.1++ [⟨8,0,0,0, [], [],p'.2,0⟩]:=by
   simp [Nf.d,noX,noXs,g1,g2]
  simp only at k1 k2
  rw [e8] at k1 k2
  rw [g3]
  obtain ⟨q,hq⟩: ∃q,q=unN ns wl n a.R p.1.2.length (w+wl a.L) (p.1.1,p.1.2++ [⟨8,0,0,0,noX,noXs,p.2,0⟩]):=⟨_,rfl⟩
  obtain ⟨q',hq'⟩: ∃q,q=unF ns wl n a.R p.1.2.length (w+wl a.L) (p'.1++ [⟨8,0,0,0, [], [],p'.2,0⟩]):=⟨_,rfl⟩
  rw [<-hq,<-hq'] at k1 k2 ⊢
  have k3:=congrArg List.length k1
  rw [List.length_map] at k3
  simp [usedI] at hu'
  by_cases c6:a.K=6
  ·rw [if_pos c6]
   have hM:a.M=0:=by grind
   have hE:a.Ex= []:=by grind
   simp [Nf.d,noX,noXs,g2,k1,k2,k3,c6,hM,hE]
  rw [if_neg c6]
  by_cases c7:a.K=7
  ·rw [if_pos c7]
   have hM:a.M=0:=by grind
   simp [Nf.d,noXs,g2,k1,k2,k3,c7,hM]
  rw [if_neg c7]
  have c8:a.K=8:=by omega
  simp [Nf.d,noXs,g2,k1,k2,k3,c8]
theorem NumOk.app {L:List Nf} {q q':Nat} {n:Nf} (h:NumOk L q) (hq:q<=q') (nd:(fNums n).Nodup) (hb: ∀k∈fNums n,q<=k/\k<q'):NumOk (L++ [n]) q':=by
 unfold NumOk
 rw [List.map_append,List.flatten_append]
 simp only [List.map_cons,List.map_nil,List.flatten_cons,List.flatten_nil,List.append_nil]
 refine ⟨List.nodup_append.2 ⟨h.1,nd,fun a ha b hb'=>?_⟩,fun k hk=>?_⟩
 ·have:=h.2 a ha;have:=hb b hb';omega
 ·rcases List.mem_append.1 hk with hk | hk
  ·have:=h.2 k hk;omega
  ·exact (hb k hk).2
theorem fNums_no {K T M W L R:Int} :fNums ⟨K,T,M,W,noX,noXs,L,R⟩= []:=rfl
theorem NumOk.app0 {L:List Nf} {q:Nat} {K T M W l r:Int} (h:NumOk L q):NumOk (L++ [⟨K,T,M,W,noX,noXs,l,r⟩]) q:=
 h.app (Nat.le_refl _) (by rw [fNums_no];exact List.nodup_nil) (by rw [fNums_no];intro k hk;cases hk)
theorem NumOk.appX {L:List Nf} {q:Nat} {K T M W l r:Int} {e:List (Int×Int)} (h:NumOk L q):NumOk (L++ [⟨K,T,M,W,(q,e),noXs,l,r⟩]) (q+1):=by
 have e1: ∀k∈fNums ⟨K,T,M,W,(q,e),noXs,l,r⟩,k=q:=fun k hk=>by
  have hk:k∈xNums (q,e)++ []:=hk
  unfold xNums at hk
  split at hk
  ·simp at hk
  ·simpa using hk
 refine h.app (by omega) ?_ fun k hk=>by have:=e1 k hk;omega
 show (xNums (q,e)++xsNums noXs).Nodup
 unfold xNums
 split <;>simp [xsNums,noXs]
theorem NumOk.appXs {L:List Nf} {q i:Nat} {K T M W l r:Int} {es:List (List (Int×Int))} (h:NumOk L q) (hi:q+es.length<=i):NumOk (L++ [⟨K,T,M,W,noX,(i,numL nX one1 q es),l,r⟩]) (i+1):=by
 obtain ⟨ns,h1,h2,h3⟩:=numL_x q es
 have e1:fNums ⟨K,T,M,W,noX,(i,numL nX one1 q es),l,r⟩=xsNums (i,numL nX one1 q es):=by
  unfold fNums noX xNums
  simp
 have e2:(xsNums (i,numL nX one1 q es)).Nodup/\ ∀k∈xsNums (i,numL nX one1 q es),q<=k/\k<i+1:=by
  unfold xsNums
  simp only
  split
  ·exact ⟨List.nodup_nil,fun k h=>by cases h⟩
  ·rw [h1]
   refine ⟨List.nodup_cons.2 ⟨fun h=>by have:=h3 _ h;omega,h2⟩,fun k hk=>?_⟩
   rcases List.mem_cons.1 hk with rfl | hk
   ·omega
   ·have:=h3 k hk;omega
 exact h.app (by omega) (by rw [e1];exact e2.1) (by rw [e1];exact e2.2)
theorem unN_ok {ns:List Pd} (wl:Int->Int): ∀(n:Nat) (i d w:Int) (s:Nat×List Nf),NumOk s.2 s.1->NumOk (unN ns wl n i d w s).1.2 (unN ns wl n i d w s).1.1
 | 0,i,d,w,s,h=>h
 | n+1,i,d,w,s,h=>by
  simp only [unN]
  obtain ⟨a,ha⟩: ∃a,a=ns.getD i.toNat default:=⟨_,rfl⟩
  rw [<-ha]
  have hp:=unN_ok (ns:=ns) wl n a.L d w s h
  obtain ⟨p,hpe⟩: ∃p,p=unN ns wl n a.L d w s:=⟨_,rfl⟩
  rw [<-hpe] at hp ⊢
  have hq:=unN_ok (ns:=ns) wl n a.R d w p.1 hp
  have hq2:=unN_ok (ns:=ns) wl n a.R p.1.2.length (w+wl a.L) (p.1.1,p.1.2++ [⟨8,0,0,0,noX,noXs,p.2,0⟩]) hp.app0
  split
  ·exact h
  split
  ·exact h.app0.app0
  split
  ·exact hp.appX
  split
  ·refine NumOk.appXs (i:=p.1.1+w.toNat+a.Exs.length+1) hp ?_
   rw [List.length_append,show (colsE w).length=w.toNat by simp [colsE]];omega
  split
  ·exact hp.app0
  split
  ·exact hq.app0
  split
  ·exact hq2.app0
  split
  ·exact hq2.appX
  ·exact hq2.appX
end Go.Proofs.YtfplalbognalkaaGreat.Ab
/- Unnesting by the program, whole. -/
namespace Go.Proofs.YtfplalbognalkaaGreat.Ab
open Go
theorem ir_at {ws:List Int} {xs:List (List E)} (h:xs=ws.map ir) {j v:Int} (h0:0<=j) (hv:ws[j.toNat]?=some v):xs.getD j.toNat []= [E.int v]:=by
 subst h
 simp [List.getD,hv]
section
variable {ns:List Pd} {wl:Int->Int} {n:Nat} {i d w:Int} {s:Nat×List Nf} {T M:Int} {Ex:List (Int×Int)} {Exs:List (List (Int×Int))} {L R:Int}
theorem unN_1 (q:ns.getD i.toNat default=⟨1,T,M,Ex,Exs,L,R⟩):unN ns wl (n+1) i d w s=(s,d):=by simp only [unN,q];rfl
theorem unN_2 (q:ns.getD i.toNat default=⟨2,T,M,Ex,Exs,L,R⟩):unN ns wl (n+1) i d w s=((s.1,(s.2++ [⟨2,T,0,0,noX,noXs,0,0⟩])++ [⟨5,0,0,0,noX,noXs,d,s.2.length⟩]),((s.2.length:Int)+1)):=by simp only [unN,q];rfl
theorem unN_3 (q:ns.getD i.toNat default=⟨3,T,M,Ex,Exs,L,R⟩):unN ns wl (n+1) i d w s=(((unN ns wl n L d w s).1.1+1,(unN ns wl n L d w s).1.2++ [⟨3,0,0,0,((unN ns wl n L d w s).1.1,Ex),noXs,(unN ns wl n L d w s).2,0⟩]),((unN ns wl n L d w s).1.2.length:Int)):=by simp only [unN,q];rfl
theorem unN_4 (q:ns.getD i.toNat default=⟨4,T,M,Ex,Exs,L,R⟩):unN ns wl (n+1) i d w s=(((unN ns wl n L d w s).1.1+w.toNat+Exs.length+2,(unN ns wl n L d w s).1.2++ [⟨4,0,0,0,noX,((unN ns wl n L d w s).1.1+w.toNat+Exs.length+1,numL nX one1 (unN ns wl n L d w s).1.1 (colsE w++Exs)),(unN ns wl n L d w s).2,0⟩]),((unN ns wl n L d w s).1.2.length:Int)):=by simp only [unN,q];rfl
theorem unN_9 (q:ns.getD i.toNat default=⟨9,T,M,Ex,Exs,L,R⟩):unN ns wl (n+1) i d w s=(((unN ns wl n L d w s).1.1,(unN ns wl n L d w s).1.2++ [⟨8,0,0,0,noX,noXs,(unN ns wl n L d w s).2,0⟩]),((unN ns wl n L d w s).1.2.length:Int)):=by simp only [unN,q];rfl
theorem unN_5 (q:ns.getD i.toNat default=⟨5,T,M,Ex,Exs,L,R⟩):unN ns wl (n+1) i d w s=(((unN ns wl n R d w (unN ns wl n L d w s).1).1.1,(unN ns wl n R d w (unN ns wl n L d w s).1).1.2++ [⟨5,0,0,w,noX,noXs,(unN ns wl n L d w s).2,(unN ns wl n R d w (unN ns wl n L d w s).1).2⟩]),((unN ns wl n R d w (unN ns wl n L d w s).1).1.2.length:Int)):=by simp only [unN,q];rfl
theorem unN_10 (q:ns.getD i.toNat default=⟨10,T,M,Ex,Exs,L,R⟩):unN ns wl (n+1) i d w s=(((unN ns wl n R d w (unN ns wl n L d w s).1).1.1,(unN ns wl n R d w (unN ns wl n L d w s).1).1.2++ [⟨9,0,0,0,noX,noXs,(unN ns wl n L d w s).2,(unN ns wl n R d w (unN ns wl n L d w s).1).2⟩]),((unN ns wl n R d w (unN ns wl n L d w s).1).1.2.length:Int)):=by simp only [unN,q];rfl
theorem unN_6 (q:ns.getD i.toNat default=⟨6,T,M,Ex,Exs,L,R⟩):unN ns wl (n+1) i d w s=(((unN ns wl n R (unN ns wl n L d w s).1.2.length (w+wl L) ((unN ns wl n L d w s).1.1,(unN ns wl n L d w s).1.2++ [⟨8,0,0,0,noX,noXs,(unN ns wl n L d w s).2,0⟩])).1.1,(unN ns wl n R (unN ns wl n L d w s).1.2.length (w+wl L) ((unN ns wl n L d w s).1.1,(unN ns wl n L d w s).1.2++ [⟨8,0,0,0,noX,noXs,(unN ns wl n L d w s).2,0⟩])).1.2++ [⟨5,0,0,w+wl L,noX,noXs,(unN ns wl n L d w s).2,(unN ns wl n R (unN ns wl n L d w s).1.2.length (w+wl L) ((unN ns wl n L d w s).1.1,(unN ns wl n L d w s).1.2++ [⟨8,0,0,0,noX,noXs,(unN ns wl n L d w s).2,0⟩])).2⟩]),((unN ns wl n R (unN ns wl n L d w s).1.2.length (w+wl L) ((unN ns wl n L d w s).1.1,(unN ns wl n L d w s).1.2++ [⟨8,0,0,0,noX,noXs,(unN ns wl n L d w s).2,0⟩])).1.2.length:Int)):=by simp only [unN,q];rfl
theorem unN_7 (q:ns.getD i.toNat default=⟨7,T,M,Ex,Exs,L,R⟩):unN ns wl (n+1) i d w s=(((unN ns wl n R (unN ns wl n L d w s).1.2.length (w+wl L) ((unN ns wl n L d w s).1.1,(unN ns wl n L d w s).1.2++ [⟨8,0,0,0,noX,noXs,(unN ns wl n L d w s).2,0⟩])).1.1+1,(unN ns wl n R (unN ns wl n L d w s).1.2.length (w+wl L) ((unN ns wl n L d w s).1.1,(unN ns wl n L d w s).1.2++ [⟨8,0,0,0,noX,noXs,(unN ns wl n L d w s).2,0⟩])).1.2++ [⟨6,0,0,w+wl L,((unN ns wl n R (unN ns wl n L d w s).1.2.length (w+wl L) ((unN ns wl n L d w s).1.1,(unN ns wl n L d w s).1.2++ [⟨8,0,0,0,noX,noXs,(unN ns wl n L d w s).2,0⟩])).1.1,Ex),noXs,(unN ns wl n L d w s).2,(unN ns wl n R (unN ns wl n L d w s).1.2.length (w+wl L) ((unN ns wl n L d w s).1.1,(unN ns wl n L d w s).1.2++ [⟨8,0,0,0,noX,noXs,(unN ns wl n L d w s).2,0⟩])).2⟩]),((unN ns wl n R (unN ns wl n L d w s).1.2.length (w+wl L) ((unN ns wl n L d w s).1.1,(unN ns wl n L d w s).1.2++ [⟨8,0,0,0,noX,noXs,(unN ns wl n L d w s).2,0⟩])).1.2.length:Int)):=by simp only [unN,q];rfl
theorem unN_8 (q:ns.getD i.toNat default=⟨8,T,M,Ex,Exs,L,R⟩):unN ns wl (n+1) i d w s=(((unN ns wl n R (unN ns wl n L d w s).1.2.length (w+wl L) ((unN ns wl n L d w s).1.1,(unN ns wl n L d w s).1.2++ [⟨8,0,0,0,noX,noXs,(unN ns wl n L d w s).2,0⟩])).1.1+1,(unN ns wl n R (unN ns wl n L d w s).1.2.length (w+wl L) ((unN ns wl n L d w s).1.1,(unN ns wl n L d w s).1.2++ [⟨8,0,0,0,noX,noXs,(unN ns wl n L d w s).2,0⟩])).1.2++ [⟨7,0,M,w+wl L,((unN ns wl n R (unN ns wl n L d w s).1.2.length (w+wl L) ((unN ns wl n L d w s).1.1,(unN ns wl n L d w s).1.2++ [⟨8,0,0,0,noX,noXs,(unN ns wl n L d w s).2,0⟩])).1.1,Ex),noXs,(unN ns wl n L d w s).2,(unN ns wl n R (unN ns wl n L d w s).1.2.length (w+wl L) ((unN ns wl n L d w s).1.1,(unN ns wl n L d w s).1.2++ [⟨8,0,0,0,noX,noXs,(unN ns wl n L d w s).2,0⟩])).2⟩]),((unN ns wl n R (unN ns wl n L d w s).1.2.length (w+wl L) ((unN ns wl n L d w s).1.1,(unN ns wl n L d w s).1.2++ [⟨8,0,0,0,noX,noXs,(unN ns wl n L d w s).2,0⟩])).1.2.length:Int)):=by simp only [unN,q];rfl
end
theorem ui_ok {ns:List Pd} {x:List (List E)} (hx:x=ns.map pdr) (hlen: ∀d∈ns,d.Ex.length<=1048576/\d.Exs.length<=1048576/\ ∀e∈d.Exs,e.length<=1048576) {ts:List Tb} (pok:Pok ns ts) {xv:List (List E)} (hxv:xv=(pwL ns (colsOf ts)).map ir)
  (F:List Nf->List (List E)) (ml: ∀l,(F l).length=l.length) (hF: ∀l a,l≠ []->F (l++ [a])=F l++ [nfr a]):
  ∀(n:Nat) (i d w:Int) (s:Nat×List Nf),0<=i->i<n->i<ns.length->0<=d->d<s.2.length->s.2.length+2 * (i-fr ns i.toNat+1)<=10000->Vd ns ts.length (colsOf ts) i w->
   UI (.sl x) (.sl xv) s.1 i d w (F s.2) s.2.length (unN ns (pw ns (colsOf ts)) n i d w s).1.1 (F (unN ns (pw ns (colsOf ts)) n i d w s).1.2) (unN ns (pw ns (colsOf ts)) n i d w s).1.2.length (unN ns (pw ns (colsOf ts)) n i d w s).2
 | 0,i,d,w,s,h0,hn,_,_,_,_,_=>by omega
 | n+1,i,d,w,s,h0,hn,h1,hd0,hd1,hb,hv=>by
  have hfr:=pok.fr h0 h1
  have hin:=pok.inp
  have hi:0<=i/\i<x.length:=⟨h0,by rw [hx,List.length_map];exact h1⟩
  obtain ⟨K,T,M,Ex,Exs,L,R,xe,ye,q0,qm,hxe,hye,q1⟩:=pd_at hx hi
  have hl':=hlen _ qm
  obtain ⟨hK1,hKL,hKR⟩:=hin i h0 h1
  obtain ⟨t0,t1,t2⟩:=fr_two hfr
  have vl:=hv.left hin h0 h1
  have vr:=hv.right hin h0 h1
  have hwb:=hv.low
  have hw0:=hv.1
  have hfl:=fr_le ns i.toNat
  rw [q0] at hK1 hKL hKR t0 t1 t2 vl vr
  simp only at hK1 hKL hKR t0 t1 t2 hl' vl vr
  have hxl:hasL K=true->((0:Int)<=L/\L<xv.length)/\xv.getD L.toNat []= [E.int (pw ns (colsOf ts) L)]:=fun h=>by
   have:=hKL h
   exact ⟨⟨this.1,by rw [hxv,List.length_map];simp [pwL];omega⟩,ir_at hxv this.1 (pwL_get this.1 (by omega))⟩
  have hpL:hasL K=true->0<=pw ns (colsOf ts) L/\pw ns (colsOf ts) L<=200:=fun h=>by
   have:=hKL h
   exact pok.pw L this.1 (by omega)
  have ud:=fun (i d w:Int) (s:Nat×List Nf) (a:0<=i) (b:i<ns.length) (c:i<n)=>congrArg List.length (unN_d (pw ns (colsOf ts)) hin pok.used n i d w s a b c).1
  have up:=fun (i d w:Int) (s:Nat×List Nf) (a:0<=i) (b:i<ns.length) (c:i<n)=>(unN_d (pw ns (colsOf ts)) hin pok.used n i d w s a b c).2
  obtain ⟨wl,hwl⟩: ∃f,f=pw ns (colsOf ts):=⟨_,rfl⟩
  have ih:=ui_ok hx hlen pok hxv F ml hF n
  have nn: ∀l:List Nf,0<(l.length:Int)->l≠ []:=fun l h q=>by rw [q] at h;simp at h
  rw [<-hwl] at ih vr hxl hpL ud up ⊢
  have ul: ∀(i d w:Int) (s:Nat×List Nf),0<=i->i<ns.length->i<n->0<=fr ns i.toNat->0<=d->d<s.2.length->
    (s.2.length:Int)<=(unN ns wl n i d w s).1.2.length/\((unN ns wl n i d w s).1.2.length:Int)<=s.2.length+2 * (i-fr ns i.toNat+1)/\0<=(unN ns wl n i d w s).2/\(unN ns wl n i d w s).2<(unN ns wl n i d w s).1.2.length:=fun i d w s a b c f e g=>by
   have h1:=ud i d w s a b c
   have h2:=up i d w s a b c
   rw [List.length_map] at h1
   have:=unF_len (ns:=ns) wl n i d w (s.2.map Nf.d) a c f e (by rw [List.length_map];exact g)
   rw [List.length_map] at this
   rw [h1,h2]
   exact this
  rcases (show K=1\/K=2\/K=3\/K=4\/K=9\/K=5\/K=10\/K=6\/K=7\/K=8 by omega) with rfl | rfl | rfl | rfl | rfl | rfl | rfl | rfl | rfl | rfl
  ·rw [unN_1 q0]
   exact ui1 T M Ex L R x xe ye (.sl xv) hxe hl'.1 s.1 i d w hi _ _ (ml s.2).symm (by omega) q1
  ·rw [unN_2 q0]
   have:=ui2 T M Ex L R x xe ye (.sl xv) hxe hl'.1 s.1 i d w hi _ _ (ml s.2).symm (by omega) _ _ _ rfl _ rfl _ rfl rfl rfl q1
   rw [hF _ _ (nn _ (by simp only [List.length_append,List.length_cons,List.length_nil];omega)),hF _ _ (nn _ (by omega))]
   simp only [List.length_append,ml,List.length_cons,List.length_nil] at this ⊢
   exact this
  ·rw [unN_3 q0]
   have kl:=hKL rfl
   obtain ⟨r1,r2⟩:=t1 rfl rfl
   have e1:fr ns L.toNat=fr ns i.toNat:=by rw [r2,show L.toNat=i.toNat-1 by omega]
   obtain ⟨g1,g2,g3,g4⟩:=ul L d w s kl.1 (by omega) (by omega) (by rw [e1];exact hfr) hd0 hd1
   have c1:=ih L d w s kl.1 (by omega) (by omega) hd0 hd1 (by rw [e1];omega) (vl rfl)
   have:=ui3 T M Ex L R x xe ye (.sl xv) hxe hl'.1 s.1 i d w hi _ _ (ml s.2).symm (by omega) _ _ _ (ml _).symm _ (by omega) _ _ rfl _ (by rw [ml]) rfl q1 c1
   rw [hF _ _ (nn _ (by omega))]
   simp only [List.length_append,ml,List.length_cons,List.length_nil] at this ⊢
   exact this
  ·rw [unN_4 q0]
   have kl:=hKL rfl
   obtain ⟨r1,r2⟩:=t1 rfl rfl
   have e1:fr ns L.toNat=fr ns i.toNat:=by rw [r2,show L.toNat=i.toNat-1 by omega]
   obtain ⟨g1,g2,g3,g4⟩:=ul L d w s kl.1 (by omega) (by omega) (by rw [e1];exact hfr) hd0 hd1
   have c1:=ih L d w s kl.1 (by omega) (by omega) hd0 hd1 (by rw [e1];omega) (vl rfl)
   have:=ui4 T M Ex Exs L R x xe ye (.sl xv) hye hl'.2.1 hl'.2.2 s.1 i d w hi _ _ (ml s.2).symm (by omega) ⟨hw0,by omega⟩ _ _ _ (ml _).symm _ (by omega) _ _ rfl _ (by rw [ml]) _ rfl rfl q1 c1
   rw [hF _ _ (nn _ (by omega))]
   simp only [List.length_append,ml,List.length_cons,List.length_nil] at this ⊢
   exact this
  ·rw [unN_9 q0]
   have kl:=hKL rfl
   obtain ⟨r1,r2⟩:=t1 rfl rfl
   have e1:fr ns L.toNat=fr ns i.toNat:=by rw [r2,show L.toNat=i.toNat-1 by omega]
   obtain ⟨g1,g2,g3,g4⟩:=ul L d w s kl.1 (by omega) (by omega) (by rw [e1];exact hfr) hd0 hd1
   have c1:=ih L d w s kl.1 (by omega) (by omega) hd0 hd1 (by rw [e1];omega) (vl rfl)
   have:=ui9 T M Ex L R x xe ye (.sl xv) hxe hl'.1 s.1 i d w hi _ _ (ml s.2).symm (by omega) _ _ _ (ml _).symm _ (by omega) _ _ rfl _ (by rw [ml]) rfl q1 c1
   rw [hF _ _ (nn _ (by omega))]
   simp only [List.length_append,ml,List.length_cons,List.length_nil] at this ⊢
   exact this
  ·rw [unN_5 q0]
   have kl:=hKL rfl
   have kr:=hKR rfl
   obtain ⟨r1,r2,r3⟩:=t2 rfl rfl
   have e1:fr ns R.toNat=L+1:=by rw [show R.toNat=i.toNat-1 by omega];omega
   obtain ⟨g1,g2,g3,g4⟩:=ul L d w s kl.1 (by omega) (by omega) (by rw [<-r3];exact hfr) hd0 hd1
   have c1:=ih L d w s kl.1 (by omega) (by omega) hd0 hd1 (by rw [<-r3];omega) (vl rfl)
   obtain ⟨k1,k2,k3,k4⟩:=ul R d w (unN ns wl n L d w s).1 kr.1 (by omega) (by omega) (by rw [e1];omega) hd0 (by omega)
   have c2:=ih R d w (unN ns wl n L d w s).1 kr.1 (by omega) (by omega) hd0 (by omega) (by rw [e1];omega) (vr rfl rfl)
   have:=ui5 T M Ex L R x xe ye (.sl xv) hxe hl'.1 s.1 i d w hi _ _ (ml s.2).symm (by omega) _ _ _ (ml _).symm _ (by omega) _ _ _ (ml _).symm _ (by omega) _ _ rfl _ (by rw [ml]) rfl q1 c1 c2
   rw [hF _ _ (nn _ (by omega))]
   simp only [List.length_append,ml,List.length_cons,List.length_nil] at this ⊢
   exact this
  ·rw [unN_10 q0]
   have kl:=hKL rfl
   have kr:=hKR rfl
   obtain ⟨r1,r2,r3⟩:=t2 rfl rfl
   have e1:fr ns R.toNat=L+1:=by rw [show R.toNat=i.toNat-1 by omega];omega
   obtain ⟨g1,g2,g3,g4⟩:=ul L d w s kl.1 (by omega) (by omega) (by rw [<-r3];exact hfr) hd0 hd1
   have c1:=ih L d w s kl.1 (by omega) (by omega) hd0 hd1 (by rw [<-r3];omega) (vl rfl)
   obtain ⟨k1,k2,k3,k4⟩:=ul R d w (unN ns wl n L d w s).1 kr.1 (by omega) (by omega) (by rw [e1];omega) hd0 (by omega)
   have c2:=ih R d w (unN ns wl n L d w s).1 kr.1 (by omega) (by omega) hd0 (by omega) (by rw [e1];omega) (vr rfl rfl)
   have:=ui10 T M Ex L R x xe ye (.sl xv) hxe hl'.1 s.1 i d w hi _ _ (ml s.2).symm (by omega) _ _ _ (ml _).symm _ (by omega) _ _ _ (ml _).symm _ (by omega) _ _ rfl _ (by rw [ml]) rfl q1 c1 c2
   rw [hF _ _ (nn _ (by omega))]
   simp only [List.length_append,ml,List.length_cons,List.length_nil] at this ⊢
   exact this
  ·rw [unN_6 q0]
   have kl:=hKL rfl
   have kr:=hKR rfl
   obtain ⟨r1,r2,r3⟩:=t2 rfl rfl
   have e1:fr ns R.toNat=L+1:=by rw [show R.toNat=i.toNat-1 by omega];omega
   obtain ⟨g1,g2,g3,g4⟩:=ul L d w s kl.1 (by omega) (by omega) (by rw [<-r3];exact hfr) hd0 hd1
   have c1:=ih L d w s kl.1 (by omega) (by omega) hd0 hd1 (by rw [<-r3];omega) (vl rfl)
   have hq4:((unN ns wl n L d w s).1.2++ [(⟨8,0,0,0,noX,noXs,(unN ns wl n L d w s).2,0⟩:Nf)]).length=(unN ns wl n L d w s).1.2.length+1:=by simp
   have pl:=hpL rfl
   obtain ⟨k1,k2,k3,k4⟩:=ul R (unN ns wl n L d w s).1.2.length (w+wl L) ((unN ns wl n L d w s).1.1,(unN ns wl n L d w s).1.2++ [⟨8,0,0,0,noX,noXs,(unN ns wl n L d w s).2,0⟩]) kr.1 (by omega) (by omega) (by rw [e1];omega) (by omega) (by simp only;omega)
   have c2:=ih R (unN ns wl n L d w s).1.2.length (w+wl L) ((unN ns wl n L d w s).1.1,(unN ns wl n L d w s).1.2++ [⟨8,0,0,0,noX,noXs,(unN ns wl n L d w s).2,0⟩]) kr.1 (by omega) (by omega) (by omega) (by simp only;omega) (by simp only;rw [e1];omega) (vr rfl rfl)
   simp only at k1 k2
   have:=ui6 T M Ex L R x xe ye xv hxe hl'.1 s.1 i d w hi _ _ (ml s.2).symm (by omega) _ _ _ (ml _).symm _ (by omega) _ _ (ml _).symm (by rw [hF _ _ (nn _ (by omega))];rfl) _ (by rw [ml]) _ _ rfl (by omega) (hxl rfl) _ _ _ (ml _).symm _ (by omega) _ _ rfl _ (by rw [ml]) rfl q1 c1 c2
   rw [hF _ _ (nn _ (by omega))]
   simp only [List.length_append,ml,List.length_cons,List.length_nil] at this ⊢
   exact this
  ·rw [unN_7 q0]
   have kl:=hKL rfl
   have kr:=hKR rfl
   obtain ⟨r1,r2,r3⟩:=t2 rfl rfl
   have e1:fr ns R.toNat=L+1:=by rw [show R.toNat=i.toNat-1 by omega];omega
   obtain ⟨g1,g2,g3,g4⟩:=ul L d w s kl.1 (by omega) (by omega) (by rw [<-r3];exact hfr) hd0 hd1
   have c1:=ih L d w s kl.1 (by omega) (by omega) hd0 hd1 (by rw [<-r3];omega) (vl rfl)
   have hq4:((unN ns wl n L d w s).1.2++ [(⟨8,0,0,0,noX,noXs,(unN ns wl n L d w s).2,0⟩:Nf)]).length=(unN ns wl n L d w s).1.2.length+1:=by simp
   have pl:=hpL rfl
   obtain ⟨k1,k2,k3,k4⟩:=ul R (unN ns wl n L d w s).1.2.length (w+wl L) ((unN ns wl n L d w s).1.1,(unN ns wl n L d w s).1.2++ [⟨8,0,0,0,noX,noXs,(unN ns wl n L d w s).2,0⟩]) kr.1 (by omega) (by omega) (by rw [e1];omega) (by omega) (by simp only;omega)
   have c2:=ih R (unN ns wl n L d w s).1.2.length (w+wl L) ((unN ns wl n L d w s).1.1,(unN ns wl n L d w s).1.2++ [⟨8,0,0,0,noX,noXs,(unN ns wl n L d w s).2,0⟩]) kr.1 (by omega) (by omega) (by omega) (by simp only;omega) (by simp only;rw [e1];omega) (vr rfl rfl)
   simp only at k1 k2
   have:=ui7 T M Ex L R x xe ye xv hxe hl'.1 s.1 i d w hi _ _ (ml s.2).symm (by omega) _ _ _ (ml _).symm _ (by omega) _ _ (ml _).symm (by rw [hF _ _ (nn _ (by omega))];rfl) _ (by rw [ml]) _ _ rfl (by omega) (hxl rfl) _ _ _ (ml _).symm _ (by omega) _ _ rfl _ (by rw [ml]) rfl q1 c1 c2
   rw [hF _ _ (nn _ (by omega))]
   simp only [List.length_append,ml,List.length_cons,List.length_nil] at this ⊢
   exact this
  ·rw [unN_8 q0]
   have kl:=hKL rfl
   have kr:=hKR rfl
   obtain ⟨r1,r2,r3⟩:=t2 rfl rfl
   have e1:fr ns R.toNat=L+1:=by rw [show R.toNat=i.toNat-1 by omega];omega
   obtain ⟨g1,g2,g3,g4⟩:=ul L d w s kl.1 (by omega) (by omega) (by rw [<-r3];exact hfr) hd0 hd1
   have c1:=ih L d w s kl.1 (by omega) (by omega) hd0 hd1 (by rw [<-r3];omega) (vl rfl)
   have hq4:((unN ns wl n L d w s).1.2++ [(⟨8,0,0,0,noX,noXs,(unN ns wl n L d w s).2,0⟩:Nf)]).length=(unN ns wl n L d w s).1.2.length+1:=by simp
   have pl:=hpL rfl
   obtain ⟨k1,k2,k3,k4⟩:=ul R (unN ns wl n L d w s).1.2.length (w+wl L) ((unN ns wl n L d w s).1.1,(unN ns wl n L d w s).1.2++ [⟨8,0,0,0,noX,noXs,(unN ns wl n L d w s).2,0⟩]) kr.1 (by omega) (by omega) (by rw [e1];omega) (by omega) (by simp only;omega)
   have c2:=ih R (unN ns wl n L d w s).1.2.length (w+wl L) ((unN ns wl n L d w s).1.1,(unN ns wl n L d w s).1.2++ [⟨8,0,0,0,noX,noXs,(unN ns wl n L d w s).2,0⟩]) kr.1 (by omega) (by omega) (by omega) (by simp only;omega) (by simp only;rw [e1];omega) (vr rfl rfl)
   simp only at k1 k2
   have:=ui8 T M Ex L R x xe ye xv hxe hl'.1 s.1 i d w hi _ _ (ml s.2).symm (by omega) _ _ _ (ml _).symm _ (by omega) _ _ (ml _).symm (by rw [hF _ _ (nn _ (by omega))];rfl) _ (by rw [ml]) _ _ rfl (by omega) (hxl rfl) _ _ _ (ml _).symm _ (by omega) _ _ rfl _ (by rw [ml]) rfl q1 c1 c2
   rw [hF _ _ (nn _ (by omega))]
   simp only [List.length_append,ml,List.length_cons,List.length_nil] at this ⊢
   exact this
end Go.Proofs.YtfplalbognalkaaGreat.Ab
/- Unnest, by the specification and by the program. -/
namespace Go.Proofs.YtfplalbognalkaaGreat.Ab
open Go
def c8:F:=⟨34, [(.cell 4 true 2),(.tmp 5)],(.seq (.reg [ZA 2 (.box 0),ZA 3 (.box 1),ZA 4 (.alloc [(.e (.sl [])),(.int 0)]),ZA 5 ZF0]) (.seq (.reg [ZA 11 (.load true 1 2),ZA 12 (.load true 1 3),ZC 13 33 [11,12],ZM 10 13,ZA 14 (.ext 0 10),ZA 15 (.ext 1 10),ZM 6 14,ZM 7 15]) (.seq (.seq (.reg [ZM 16 7,ZA 17 (.un .not 16)]) (.cond 17 (.seq (.reg [ZA 18 (.build [.zs,(.int 0)] []),ZN (.store true 2 4 18),ZA 5 ZF0]) .ret) .skip)) (.seq (.reg [ZA 20 (.load true 1 2),ZA 21 (.load true 1 3),ZE 22 0 2,ZL 23 22,ZA 24 (.lenl 23),ZA 25 (.bin .sub 24 (.c (.int 1))),ZA 26 (.build [(.int 0),(.int 0),(.int 0),(.int 0),.zs,.zs,(.int 0),(.int 0)] [(0,(1,(.c (.int 1))))]),ZA 27 (.lit 8 [(.v (.int .i64 0)),(.v (.int .i64 0)),(.v (.int .i64 0)),(.v (.int .i64 0)),(.sl []),(.sl []),(.v (.int .i64 0)),(.v (.int .i64 0))] 1 [(0,26)]),ZC 28 34 [20,21,25,(.c (.int 0)),(.c (.int 0)),27],ZM 19 28,ZA 29 (.ext 0 19),ZA 30 (.ext 1 19),ZM 8 29,ZM 9 30]) (.seq (.reg [ZM 31 8,ZM 32 9,ZA 33 (.build [.zs,(.int 0)] [(0,(1,31)),(1,(1,32))]),ZN (.store true 2 4 33),ZA 5 ZT0]) .ret)))))⟩
theorem p8:prepF Tryz.prog 8=some c8:=by kernel_rfl
def c11:F:=⟨33, [(.cell 4 true 2),(.tmp 5)],(.seq (.reg [ZA 2 (.box 0),ZA 3 (.box 1),ZA 4 (.alloc [(.e (.sl [])),(.int 0)]),ZA 5 ZF0]) (.seq (.seq (.reg [ZA 8 (.load true 1 2),ZA 9 (.load true 1 3),ZC 10 37 [8,9],ZA 11 (.isnilI false 10)]) (.cond 11 (.seq (.reg [ZA 12 (.build [.zs,(.int 0)] []),ZN (.store true 2 4 12),ZA 5 ZF0]) .ret) .skip)) (.seq (.dreg [⟨ZA 13 (.load true 1 2), [], [2]⟩,⟨ZA 14 (.load true 1 2), [0], [2]⟩,⟨ZA 15 (.load true 1 3), [0,1], [3]⟩,⟨ZC 16 38 [14,15], [0], [14,15]⟩,⟨ZA 17 (.build [(.int 0),(.int 0),(.int 0),(.int 0),.zs,.zs,(.int 0),(.int 0)] [(0,(1,(.c (.int 1))))]), [0,1,2,3], []⟩,⟨ZA 18 (.lit 8 [(.v (.int .i64 0)),(.v (.int .i64 0)),(.v (.int .i64 0)),(.v (.int .i64 0)),(.sl []),(.sl []),(.v (.int .i64 0)),(.v (.int .i64 0))] 1 [(0,17)]), [0,1,2,3], [17]⟩,⟨ZA 19 (.build [.zs,.zs,.zs] [(0,(1,13)),(1,(1,16)),(2,(1,18))]), [], [13,16,18]⟩,⟨ZA 20 (.box 19), [], [19]⟩,⟨ZM 6 20, [], [20]⟩]) (.seq (.reg [ZM 21 6,ZE 22 0 2,ZL 23 22,ZA 24 (.lenl 23),ZA 25 (.bin .sub 24 (.c (.int 1))),ZC 26 39 [21,25,(.c (.int 0)),(.c (.int 0))],ZM 7 26]) (.seq (.reg [ZM 27 6,ZA 28 (.nilc 27),ZE 29 2 28,ZL 30 29,ZM 31 7,ZA 32 (.build [.zs,(.int 0)] [(0,(1,30)),(1,(1,31))]),ZN (.store true 2 4 32),ZA 5 ZT0]) .ret)))))⟩
theorem p11:prepF Tryz.prog 11=some c11:=by kernel_rfl
theorem unn_side {az:List D} {X:E} {rt:Int} {b:Bool} {q0 q1:Nat} (h1: ∀t,az=rens t az) (h2:lts 1 az=true):Side (fun _=>az) (fun _=> [.ids q0]) (fun _=> .tup [.agg [.e X,.int rt],.bool b]) (fun _=> [.ids q1]):=
 ⟨h1,h2,fun t=>rfl,by intro o ho;rw [List.mem_singleton] at ho;subst ho;rfl,fun t=>rfl,fun t=>rfl,Nat.le_refl _⟩
abbrev unit0:List E:= [E.int 1,E.int 0,E.int 0,E.int 0,E.sl [],E.sl [],E.int 0,E.int 0]
theorem ok8f (x xt:List (List E)) (w:Int) (h216:Plain Tryz.prog 33 [.agg [.e (.sl x)],.agg [.e (.sl xt)]] (.tup [.int w,.bool false])):
  Plain Tryz.prog 8 [.agg [.e (.sl x)],.agg [.e (.sl xt)]] (.tup [.agg [.e (.sl []),.int 0],.bool false]):=okOf mixed p8 fun A P hA hP=>(by
 cbv
 repeat' first | exact W1 | refine WA ?_ ?_ | with_reducible intro hcc | refine WS ?_ | refine WK hA hP ?_ | ((with_reducible refine hA.fin_tup _ _ _ ?_)) | refine W6 ?_ | ((with_reducible first | refine hA.Len fun z hz hb=>?_);cbv) | ((with_reducible first | refine hA.Sto ?_ fun ds hds=>?_);rotate_left;cbv) | refine WL ?_ | fail
 all_goals try simp only [hA.sm,n_cast] at *
 all_goals first
  | rfl)
theorem ok8t (x xt:List (List E)) (w i:Int) (hi:i=(x.length:Int)-1) (hx:1<=x.length/\x.length<=2000) (h216:Plain Tryz.prog 33 [.agg [.e (.sl x)],.agg [.e (.sl xt)]] (.tup [.int w,.bool true])) (es:List (List E)) (n:Nat) (p:Int) (h:US (.sl x) (.sl xt) i 0 0 [unit0] 1 es n p):
  Plain Tryz.prog 8 [.agg [.e (.sl x)],.agg [.e (.sl xt)]] (.tup [.agg [.e (.sl es),.int p],.bool true]):=okOf mixed p8 fun A P hA hP=>(by
 obtain ⟨ze,hze⟩: ∃z:Int,z=x.length:=⟨_,rfl⟩
 have hq:i=A.sub ze 1:=by rw [hA.sub];omega
 cbv
 repeat' first | exact W1 | (simp only [<-hq];cbv) | refine WA ?_ ?_ | with_reducible intro hcc | refine WS ?_ | refine WK hA hP ?_ | (refine hA.LenE hze fun hb=>?_;cbv) | ((with_reducible show A.call _ _ _ _ _ 34 _ _ _);have hc:=h;refine callK_pr hA hP [3] (by rfl) (by exact ⟨rfl,trivial⟩) (Wks.refl _) ?_ (fun _ _=>hc) hc.side;cbv) | ((with_reducible refine hA.fin_tup _ _ _ ?_)) | refine W6 ?_ | ((with_reducible first | refine hA.Len fun z hz hb=>?_);cbv) | ((with_reducible first | refine hA.Sto ?_ fun ds hds=>?_);rotate_left;cbv) | refine WL ?_ | fail
 all_goals try simp only [hA.sm,n_cast] at *
 all_goals first
  | rfl
  | omega
  | exact ⟨rfl,trivial⟩)
theorem n415f (x xt:List (List E)) (h245:Plain Tryz.prog 37 [.agg [.e (.sl x)],.agg [.e (.sl xt)]] (.e (.v .nilIface))):
  Proc Tryz.prog 11 (fun _=> [.agg [.e (.sl x)],.agg [.e (.sl xt)]]) (fun _=> [.ids 0]) (fun _=> .tup [.agg [.e (.fs 0 []),.int 0],.bool false]) (fun _=> [.ids 0]):=procOf mixed p11 (unn_side (fun t=>rfl) rfl) fun A P hA hP=>(by
 cbv
 repeat' first | exact W1 | refine WA ?_ ?_ | with_reducible intro hcc | refine WS ?_ | refine WK hA hP ?_ | ((with_reducible refine hA.finv _ _ _ _ _ ((finv_zsFs (t:=0) rfl ?_).ctx (Plc.tup (Plc.agg Plc.refl rfl) rfl)))) | refine W6 ?_ | ((with_reducible first | refine hA.Len fun z hz hb=>?_);cbv) | ((with_reducible first | refine hA.Sto ?_ fun ds hds=>?_);rotate_left;cbv) | refine WL ?_ | fail
 all_goals try simp only [hA.sm,n_cast] at *
 all_goals first
  | omega
  | exact Nat.le_refl _)
abbrev unitN:List E:= [E.int 1,E.int 0,E.int 0,E.int 0,E.fs 0 [],E.fs 0 [],E.int 0,E.int 0]
def rws:List Nf->List (List E)
 | []=> []
 | _::r=>unit0::r.map nfr
theorem rws_len: ∀l,(rws l).length=l.length
 | []=>rfl
 | _::r=>by simp [rws]
theorem rws_app: ∀l a,l≠ []->rws (l++ [a])=rws l++ [nfr a]
 | [],_,h=>absurd rfl h
 | b::r,a,_=>by simp [rws]
theorem own_unit {i:Nat} {r:List (List E)} (h8: ∀e∈r,e.length=8):Sub (.own i (unit0::r)) (.own i (unitN::r)):=fun w G h v rv=>by
 cases rv with
 | @own _ _ k0 _ hx hk ht=>
  obtain ⟨b,off,cap,k,u,rfl,hc,hm,hk2,hp,hr⟩:=rvE_sl hx (by simp)
  have e8:k=8:=by have:=hk2 unit0 (by simp);simpa using this.symm
  have e8':k0=8:=by have:=hk unit0 (by simp);simpa using this.symm
  subst e8
  subst e8'
  have hk': ∀e∈unitN::r,e.length=8:=fun e he=>by
   rcases List.mem_cons.1 he with rfl | he
   ·rfl
   ·exact h8 e he
  have em: ∀c,RvE w G c (.sl [])->RvE w G c (.fs 0 []):=fun c q=>by
   cases q with
   | nils h=>exact .fnils h
   | sl u' hn hc' hm' hk' hp' hr'=>subst hn;exact .fnils fun h=>by cases h
  refine .own (k:=8) (.sl (k:=8) u rfl hc hm hk' hp fun j d hd=>?_) hk' ht
  have h0:=hr j
  match j with
  | 0=>cases hd;exact h0 _ rfl
  | 1=>cases hd;exact h0 _ rfl
  | 2=>cases hd;exact h0 _ rfl
  | 3=>cases hd;exact h0 _ rfl
  | 4=>cases hd;exact em _ (h0 (E.sl []) rfl)
  | 5=>cases hd;exact em _ (h0 (E.sl []) rfl)
  | 6=>cases hd;exact h0 _ rfl
  | 7=>cases hd;exact h0 _ rfl
  | j+8=>exact h0 d hd
theorem FinV.sub {l0 l' l:List O} {d' d'' d:D} (s:Sub d' d'') (h:FinV l0 l' d'' l d):FinV l0 l' d' l d:=fun w G v hi hr=>h w G v hi (s _ _ _ _ hr)
theorem n415t (x xt xv:List (List E)) (i:Int) (hi:i=(x.length:Int)-1) (hx:1<=x.length/\x.length<=2000) (T:TypeId) (cs:List E) (h245:Plain Tryz.prog 37 [.agg [.e (.sl x)],.agg [.e (.sl xt)]] (.e (.ia T cs))) (h424:Plain Tryz.prog 38 [.agg [.e (.sl x)],.agg [.e (.sl xt)]] (.e (.sl xv)))
  (q:Nat) (r:List (List E)) (h8: ∀e∈r,e.length=8) (n:Nat) (hn:n=(unitN::r).length) (p:Int) (h:UI (.sl x) (.sl xv) 0 i 0 0 [unit0] 1 q (unit0::r) n p):
  Proc Tryz.prog 11 (fun _=> [.agg [.e (.sl x)],.agg [.e (.sl xt)]]) (fun _=> [.ids 0]) (fun _=> .tup [.agg [.e (.fs q (unitN::r)),.int p],.bool true]) (fun _=> [.ids (q+1)]):=procOf mixed p11 (unn_side (fun t=>rfl) rfl) fun A P hA hP=>(by
 obtain ⟨ze,hze⟩: ∃z:Int,z=x.length:=⟨_,rfl⟩
 have hq:i=A.sub ze 1:=by rw [hA.sub];omega
 obtain ⟨es0,he0⟩: ∃e,e=unit0::r:=⟨_,rfl⟩
 obtain ⟨es1,he1⟩: ∃e,e=unitN::r:=⟨_,rfl⟩
 have hsub: ∀ {i:Nat},Sub (.own i es0) (.own i es1):=fun {i} =>by rw [he0,he1];exact own_unit h8
 have h8': ∀e∈es1,e.length=8:=fun e he=>by
  rw [he1] at he
  rcases List.mem_cons.1 he with rfl | he
  ·rfl
  ·exact h8 e he
 rw [<-he0] at h
 rw [<-he1] at hn ⊢
 obtain ⟨q1,hq1⟩: ∃q1,q1=q+1:=⟨_,rfl⟩
 rw [<-hq1]
 clear he0 he1
 have fin: ∀l':List O,hpF l' 0= .ids q->hpF l' 4= .front es1.length 8->FinV [.ids 0] l' (.tup [.agg [.own 4 es0,.int p],.bool true]) [.ids (q+1)] (.tup [.agg [.e (.fs q es1),.int p],.bool true]):=fun l' a b=>
  FinV.ctx (FinV.sub hsub (finv_ownFs a b h8')) (Plc.tup (Plc.agg Plc.refl rfl) rfl)
 cbv
 repeat' first | exact W1 | (simp only [<-hq];cbv) | refine WA ?_ ?_ | with_reducible intro hcc | refine WS ?_ | refine WK hA hP ?_ | (refine hA.LenE hze fun hb=>?_;cbv) | ((with_reducible show A.call _ _ _ _ _ 39 _ _ _);have hc:=h;refine callK_pr hA hP [0,5,4] (by rfl) (by exact ⟨rfl,rfl,rfl,trivial⟩) (Wks.refl _) ?_ (fun _ _=>hc) hc.side;cbv) | ((with_reducible refine hA.finv _ _ _ _ _ ?_);rw [hq1];exact fin _ rfl (congrArg (fun n=>O.front n 8) hn)) | refine W6 ?_ | ((with_reducible first | refine hA.Len fun z hz hb=>?_);cbv) | ((with_reducible first | refine hA.Sto ?_ fun ds hds=>?_);rotate_left;cbv) | refine WL ?_ | fail
 all_goals try simp only [hA.sm,n_cast] at *
 all_goals first
  | rfl
  | omega
  | exact ⟨rfl,trivial⟩)
end Go.Proofs.YtfplalbognalkaaGreat.Ab
/- Marks in plans: what they are, and walked. -/
namespace Go.Proofs.YtfplalbognalkaaGreat.Ab
open Go
def c43:F:=⟨62, [(.tmp 4)],(.seq (.reg [ZA 4 (.mov (.c (.int 0)))]) (.seq (.seq (.reg [ZA 5 (.mov (.c (.int 0)))]) (.block 0 (.loop (.seq (.seq (.reg [ZM 6 5,ZM 7 0,ZA 8 (.lenl 7),ZA 9 (.bin .lss 6 8)]) (.cond 9 .skip (.exit 0))) (.seq (.block 1 (.seq (.reg [ZM 12 0,ZM 13 5,ZM 14 1,ZA 15 (.iadr none 7 12 13),ZE 16 0 15,ZN (.store false 1 16 14)]) (.seq (.reg [ZM 17 1,ZA 18 (.bin .add 17 (.c (.int 1))),ZM 1 18]) (.seq (.reg [ZM 19 0,ZM 20 5,ZM 21 1,ZA 22 (.iadr none 7 19 20),ZE 23 1 22,ZN (.store false 1 23 21)]) (.seq (.reg [ZM 24 1,ZA 25 (.bin .add 24 (.c (.int 1))),ZM 1 25]) (.seq (.reg [ZM 26 0,ZM 27 5,ZM 28 1,ZA 29 (.iadr none 7 26 27),ZE 30 2 29,ZN (.store false 1 30 28)]) (.seq (.reg [ZM 31 1,ZA 32 (.bin .add 31 (.c (.int 1))),ZM 1 32]) (.seq (.reg [ZM 33 0,ZM 34 5,ZA 35 (.iadr none 7 33 34),ZE 36 3 35,ZL 37 36,ZM 38 1,ZC 39 95 [37,38],ZM 1 39]) (.seq (.reg [ZM 40 0,ZM 41 5,ZA 42 (.iadr none 7 40 41),ZE 43 4 42,ZL 44 43,ZM 45 1,ZC 46 96 [44,45],ZM 1 46]) (.seq (.reg [ZM 47 0,ZM 48 5,ZM 49 1,ZA 50 (.iadr none 7 47 48),ZE 51 5 50,ZN (.store false 1 51 49)]) (.seq (.reg [ZM 52 1,ZA 53 (.bin .add 52 (.c (.int 1))),ZM 1 53]) (.seq (.reg [ZM 54 0,ZM 55 5,ZM 56 1,ZA 57 (.iadr none 7 54 55),ZE 58 6 57,ZN (.store false 1 58 56)]) (.reg [ZM 59 1,ZA 60 (.bin .add 59 (.c (.int 1))),ZM 1 60]))))))))))))) (.reg [ZM 10 5,ZA 11 (.bin .add 10 (.c (.int 1))),ZM 5 11])))))) (.seq (.reg [ZM 61 1,ZM 4 61]) .ret)))⟩
theorem p43:prepF Tryz.prog 43=some c43:=by kernel_rfl
def c15:F:=⟨10, [(.tmp 4)],(.seq (.reg [ZA 2 (.box 0),ZA 4 (.mov (.c (.int 0)))]) (.seq (.reg [ZE 5 0 2,ZL 6 5,ZM 7 1,ZC 8 43 [6,7],ZM 1 8]) (.seq (.reg [ZM 9 1,ZM 4 9]) .ret)))⟩
theorem p15:prepF Tryz.prog 15=some c15:=by kernel_rfl
structure Np where
 K:Int
 T:Int
 M:Int
 Ex:Nx
 Exs:Nxs
 L:Int
 R:Int
 deriving Inhabited
abbrev npr (n:Np):List E:= [E.int n.K,E.int n.T,E.int n.M,eX n.Ex,eXs n.Exs,E.int n.L,E.int n.R]
def Np.d (n:Np):Pd:=⟨n.K,n.T,n.M,n.Ex.2,n.Exs.2.map Prod.snd,n.L,n.R⟩
def cP (n:Np):Int:=5+cX n.Ex+cXs n.Exs
theorem cP_nonneg (n:Np):0<=cP n:=by have:=cX_nonneg n.Ex;have:=cXs_nonneg n.Exs;unfold cP;omega
def mkP (k:Int) (n:Np):Np:=⟨k,k+1,k+2,mkX (k+3) n.Ex,mkXs (k+3+cX n.Ex) n.Exs,k+3+cX n.Ex+cXs n.Exs,k+3+cX n.Ex+cXs n.Exs+1⟩
def ePs (i:Nat) (l:List Np):E:= .fs i (l.map npr)
theorem ePs_un (i:Nat) (l:List Np):(ePs i l).un= .sl (l.map fun n=>pdr n.d):=by
 rw [ePs,E.un,unss_map,List.map_map]
 congr 1
 refine List.map_congr_left fun r _=>?_
 simp only [Function.comp,List.map_cons,List.map_nil,eX_un,eXs_un,Np.d]
 rfl
theorem one_side {z z':Int} {R R':World->Value->List Nat->Prop} :Side (fun t=> [.agg [.rv (t 0)],.int z]) (fun _=> [.res R]) (fun _=> .int z') (fun _=> [.res R']):=
 ⟨fun t=>rfl,rfl,fun t=>rfl,by intro o ho;rw [List.mem_singleton] at ho;subst ho;rfl,fun t=>rfl,fun t=>rfl,Nat.le_refl _⟩
theorem w426 (L:List Np) (vs:List Value) (hv:vs.length=(L.map npr).flatten.length) (k:Int) (hk:0<=k) (hk2:k+sumC cP L<=140737488355328) (hlen:L.length<=1048576) (hlx: ∀n∈L,n.Exs.2.length<=1048576):
  Proc Tryz.prog 43 (fun t=> [.vec (t 0) (L.map npr).length 7,.int k]) (fun _=> [.vec true 7 (cells vs (L.map npr).flatten),.res (Trees vs ((L.map npr).flatten.map trk))]) (fun _=> .int (k+sumC cP L))
   (fun _=> [.vec true 7 (cells vs ((mkL mkP cP k L).map npr).flatten),.res (Trees vs (((mkL mkP cP k L).map npr).flatten.map trk))]):=procOf mixed p43 res_side fun A P hA hP=>(by
 obtain ⟨kr,hkr⟩: ∃r,r=k+sumC cP L:=⟨_,rfl⟩
 obtain ⟨xs0,hxs0⟩: ∃xs,xs=L.map npr:=⟨_,rfl⟩
 obtain ⟨n,hn⟩: ∃n,n=L.length:=⟨_,rfl⟩
 have hnx:xs0.length=n:=by rw [hxs0,hn,List.length_map]
 rw [<-hxs0] at hv ⊢
 rw [hnx]
 obtain ⟨ts,hts⟩: ∃ts,ts=(mkL mkP cP k L).map npr:=⟨_,rfl⟩
 have htl:ts.length=n:=by rw [hts,List.length_map,mkL_len,hn]
 obtain ⟨ds0,hds0⟩: ∃ds,ds=cells vs xs0.flatten:=⟨_,rfl⟩
 obtain ⟨R0,hR0⟩: ∃R,R=Trees vs (xs0.flatten.map trk):=⟨_,rfl⟩
 obtain ⟨dsF,hdsF⟩: ∃ds,ds=cells vs ts.flatten:=⟨_,rfl⟩
 obtain ⟨RF,hRF⟩: ∃R,R=Trees vs (ts.flatten.map trk):=⟨_,rfl⟩
 have V0:VS 7 vs xs0 ds0 R0:=⟨fun e h=>by rw [hxs0] at h;obtain ⟨p,_,rfl⟩:=List.mem_map.1 h;rfl,hv,hds0,hR0⟩
 rw [<-hkr,<-hds0,<-hR0,<-hts,<-hdsF,<-hRF]
 cbv
 repeat' first | exact W1 | refine WA ?_ ?_ | with_reducible intro hcc | refine WS ?_ | refine W6 ?_ | ((with_reducible first | refine hA.Len fun z hz hb=>?_ | refine hA.Off fun b hb=>?_ | refine hA.Plus fun b hb=>?_);cbv) | ((with_reducible first | refine hA.Sto ?_ fun ds hds=>?_ | refine hA.Sapp ?_ fun sl hsl=>?_);rotate_left;cbv) | refine WL ?_ | fail
 all_goals try simp only [hA.sm,n_cast] at *
 all_goals try omega
 refine hA.loopI (fun m s=> ∃(i k1:Int) (xs:List (List E)) (ds:List D) (R:World->Value->List Nat->Prop),0<=i/\m+i=n/\k1=k+sumC cP L-sumC cP (L.drop i.toNat)/\VS 7 vs xs ds R/\xs.length=n/\(∀j:Nat,j<i->xs[j]?=ts[j]?)/\(∀j:Nat,i<=j->xs[j]?=xs0[j]?)/\
    s=⟨[(5,.int i),(0,.vec 0 n 7),(1,.int k1)], [.vec true 7 ds,.res R]⟩) n _
   (Weak.keep (env':= [(5,.int 0),(0,.vec 0 n 7),(1,.int k)]) ⟨rfl,rfl,rfl,trivial⟩)
   ⟨0,k,xs0,ds0,R0,by omega,by omega,(by rw [show (0:Int).toNat=0 from rfl,List.drop_zero];omega),V0,hnx,(fun j hj=>by omega),(fun j _=>rfl),rfl⟩ ?_
 rintro m s K' ⟨i,k1,xs,ds,R,h0,h1,hk1,hV,h2,h3,h4,rfl⟩ hK
 have hdl:ds.length=xs.length * 7:=hV.len
 by_cases hin:(0:Int)<=i/\i<n
 ·have e1:A.lt i (Int.ofNat n)=true:=by rw [hA.lt,Int.ofNat_eq_natCast];exact decide_eq_true (by omega)
  obtain ⟨d,hr⟩: ∃r,L[i.toNat]?=some r:=⟨_,List.getElem?_eq_getElem (by omega)⟩
  have hdr:=sumC_drop (c:=cP) hr
  have hc0:=sumC_nonneg cP_nonneg (L.drop (i.toNat+1))
  have hcd:sumC cP (L.drop i.toNat)<=sumC cP L:=sumC_le cP_nonneg L i.toNat
  have hxi:xs[i.toNat]?=some (npr d):=by rw [h4 i.toNat (by omega),hxs0,List.getElem?_map,hr];rfl
  have hcx:=cX_nonneg d.Ex
  have hcxs:=cXs_nonneg d.Exs
  have hcf:cP d=5+cX d.Ex+cXs d.Exs:=rfl
  have hlx':=hlx d (List.mem_of_getElem? hr)
  obtain ⟨ka,hka⟩: ∃k,k=A.add k1 1:=⟨_,rfl⟩
  obtain ⟨kb,hkb⟩: ∃k,k=A.add ka 1:=⟨_,rfl⟩
  obtain ⟨kc,hkc⟩: ∃k,k=A.add kb 1:=⟨_,rfl⟩
  have hka':ka=k1+1:=by rw [hka,hA.add]
  have hkb':kb=k1+2:=by rw [hkb,hA.add];omega
  have hkc':kc=k1+3:=by rw [hkc,hA.add];omega
  obtain ⟨ke,hke⟩: ∃k,k=kc+cX d.Ex:=⟨_,rfl⟩
  obtain ⟨kf,hkf⟩: ∃k,k=ke+cXs d.Exs:=⟨_,rfl⟩
  obtain ⟨kg,hkg⟩: ∃k,k=A.add kf 1:=⟨_,rfl⟩
  have hkg':kg=kf+1:=by rw [hkg,hA.add]
  have m4:=mark300 d.Ex kc (by omega) (by omega)
  have m5:=mark301 d.Exs ke (by omega) (by omega) hlx'
  rw [<-hke] at m4
  rw [<-hkf] at m5
  obtain ⟨v4,hv4,hd4⟩:=hV.ld hxi (c:=3) rfl rfl
  obtain ⟨v5,hv5,hd5⟩:=hV.ld hxi (c:=4) rfl rfl
  have V1:=hV.st (c:=0) (x':= .int .i64 k1) hxi rfl rfl rfl
  have V2:=V1.st (c:=1) (x':= .int .i64 ka) (set_get hxi) rfl rfl rfl
  have V3:=V2.st (c:=2) (x':= .int .i64 kb) (set_get (set_get hxi)) rfl rfl rfl
  obtain ⟨R2,V5,hcal4⟩:=V3.mark (c:=3) (e:=eX d.Ex) (e':=eX (mkX kc d.Ex)) (set_get (set_get (set_get hxi))) rfl rfl rfl hv4 m4
  obtain ⟨R3,V6,hcal5⟩:=V5.mark (c:=4) (e:=eXs d.Exs) (e':=eXs (mkXs ke d.Exs)) (set_get (set_get (set_get (set_get hxi)))) rfl rfl rfl hv5 m5
  have hcal4:=hcal4 1
  have hcal5:=hcal5 1
  have ch: ∀ {d1 d2 d3:List D} {b1 b2 b3:Nat},d3=d2.take b3++ [.e (E.int kb)]++d2.drop (b3+1)->d2=d1.take b2++ [.e (E.int ka)]++d1.drop (b2+1)->d1=ds.take b1++ [.e (E.int k1)]++ds.drop (b1+1)->
    b1=i.toNat * 7+0->b2=i.toNat * 7+1->b3=i.toNat * 7+2->VS 7 vs ((xs.set i.toNat _).set i.toNat _ |>.set i.toNat _) d3 R:=fun {d1 d2 d3 b1 b2 b3} q3 q2 q1 p1 p2 p3=>
   ((hV.st (c:=0) (x':= .int .i64 k1) hxi rfl p1 q1).st (c:=1) (x':= .int .i64 ka) (set_get hxi) rfl p2 q2).st (c:=2) (x':= .int .i64 kb) (set_get (set_get hxi)) rfl p3 q3
  have ld4: ∀ {d1 d2 d3:List D} {b1 b2 b3 b:Nat} {c:D},d3=d2.take b3++ [.e (E.int kb)]++d2.drop (b3+1)->d2=d1.take b2++ [.e (E.int ka)]++d1.drop (b2+1)->d1=ds.take b1++ [.e (E.int k1)]++ds.drop (b1+1)->
    b1=i.toNat * 7+0->b2=i.toNat * 7+1->b3=i.toNat * 7+2->b=i.toNat * 7+3->c=d3.getD b default->c= .e (.v v4):=fun {d1 d2 d3 b1 b2 b3 b c} q3 q2 q1 p1 p2 p3 p5 q5=>by
   obtain ⟨v,g1,g2⟩:=(ch q3 q2 q1 p1 p2 p3).ld (c:=3) (e:=eX d.Ex) (set_get (set_get (set_get hxi))) rfl rfl
   rw [hv4] at g1
   cases g1
   rw [q5,p5,List.getD,g2]
   rfl
  have ld5: ∀ {d1 d2 d3:List D} {b1 b2 b3 b:Nat} {c:D},d3=d2.take b3++ [.e (E.int kb)]++d2.drop (b3+1)->d2=d1.take b2++ [.e (E.int ka)]++d1.drop (b2+1)->d1=ds.take b1++ [.e (E.int k1)]++ds.drop (b1+1)->
    b1=i.toNat * 7+0->b2=i.toNat * 7+1->b3=i.toNat * 7+2->b=i.toNat * 7+4->c=d3.getD b default->c= .e (.v v5):=fun {d1 d2 d3 b1 b2 b3 b c} q3 q2 q1 p1 p2 p3 p5 q5=>by
   obtain ⟨v,g1,g2⟩:=(ch q3 q2 q1 p1 p2 p3).ld (c:=4) (e:=eXs d.Exs) (set_get (set_get (set_get hxi))) rfl rfl
   rw [hv5] at g1
   cases g1
   rw [q5,p5,List.getD,g2]
   rfl
  have hK2: ∀ {d1 d2 d3 d5 d6:List D} {b1 b2 b3 b5 b6:Nat} (env:List (Nat×D)),d6=d5.take b6++ [.e (E.int kg)]++d5.drop (b6+1)->d5=d3.take b5++ [.e (E.int kf)]++d3.drop (b5+1)->d3=d2.take b3++ [.e (E.int kb)]++d2.drop (b3+1)->d2=d1.take b2++ [.e (E.int ka)]++d1.drop (b2+1)->d1=ds.take b1++ [.e (E.int k1)]++ds.drop (b1+1)->
    b1=i.toNat * 7+0->b2=i.toNat * 7+1->b3=i.toNat * 7+2->b5=i.toNat * 7+5->b6=i.toNat * 7+6->
    subL [(5,.int (i+1)),(0,.vec 0 n 7),(1,.int (kg+1))] env->K' ⟨env, [.vec true 7 d6,.res R3]⟩:=fun {d1 d2 d3 d5 d6 b1 b2 b3 b5 b6} env q6 q5 q3 q2 q1 p1 p2 p3 p5 p6 q=>by
   have W4:=ch q3 q2 q1 p1 p2 p3
   have W6:=VS.same (W4.same V3 V5) V5 V6
   have W7:=W6.st (c:=5) (x':= .int .i64 kf) (set_get (set_get (set_get (set_get (set_get hxi))))) rfl p5 q5
   have W8:=W7.st (c:=6) (x':= .int .i64 kg) (set_get (set_get (set_get (set_get (set_get (set_get hxi)))))) rfl p6 q6
   simp only [List.set_set] at W8
   refine hK _ (m-1) _ (by omega) (Weak.keep q) ⟨i+1,kg+1,_,d6,R3,by omega,by omega,?_,W8,?_,fun j hj=>?_,fun j hj=>?_,rfl⟩
   ·rw [show (i+1).toNat=i.toNat+1 by omega];omega
   ·rw [List.length_set];exact h2
   ·by_cases hji:(j:Int)<i
    ·rw [List.getElem?_set_ne (show i.toNat≠j by omega)];exact h3 j hji
    ·have:j=i.toNat:=by omega
     subst this
     rw [List.getElem?_set_self (by omega),hts,List.getElem?_map,mkL_get _ _ _ _ _ _ hr,<-hk1]
     show some [E.int k1,E.int ka,E.int kb,eX (mkX kc d.Ex),eXs (mkXs ke d.Exs),E.int kf,E.int kg]=some (npr (mkP k1 d))
     simp only [mkP,npr]
     rw [hka',hkb',hkg',hkf,hke,hkc']
   ·rw [List.getElem?_set_ne (show i.toNat≠j by omega)];exact h4 j (by omega)
  have hbd:0<=k1/\kg+1<=140737488355328:=by omega
  clear hK h3 h4 m4 m5 hk1 hdr hxi hV V1 V2 V3 V5 V6 V0 hts ch hd4 hd5 hv4 hv5
  cbv
  repeat' first | exact W1 | (simp only [e1,<-hka,<-hkb,<-hkc,<-hkg];cbv) | refine WA ?_ ?_ | with_reducible intro hcc | refine WS ?_ | ((with_reducible show A.call _ _ _ _ _ 95 _ _ _);refine callK_res hA hP rfl ?_ hcal4;cbv) | ((with_reducible show A.call _ _ _ _ _ 96 _ _ _);refine callK_res hA hP rfl ?_ hcal5;cbv) | ((with_reducible refine hA.ld1 _ _ _ ⟨?_,fun c hc=>?_⟩);rotate_left;(have e9:=ld4 (by assumption) (by assumption) (by assumption) (by omega) (by omega) (by omega) (by omega) hc);subst e9;cbv) | ((with_reducible refine hA.ld1 _ _ _ ⟨?_,fun c hc=>?_⟩);rotate_left;(have e9:=ld5 (by assumption) (by assumption) (by assumption) (by omega) (by omega) (by omega) (by omega) hc);subst e9;cbv) | refine W6 ?_ | ((with_reducible first | refine hA.Len fun z hz hb=>?_ | refine hA.Off fun b hb=>?_ | refine hA.Plus fun b hb=>?_);cbv) | ((with_reducible first | refine hA.Sto ?_ fun ds hds=>?_ | refine hA.Sapp ?_ fun sl hsl=>?_);rotate_left;cbv) | refine WL ?_ | fail
  all_goals try simp only [hA.sm,n_cast] at *
  all_goals first
   | omega
   | exact hK2 _ (by assumption) (by assumption) (by assumption) (by assumption) (by assumption) (by omega) (by omega) (by omega) (by omega) (by omega) ⟨rfl,rfl,rfl,trivial⟩
   | exact finv_refl hA
   | (subst_vars;simp only [List.length_append,List.length_take,List.length_drop,List.length_cons,List.length_nil];omega)
 ·have e1:A.lt i (Int.ofNat n)=false:=by rw [hA.lt,Int.ofNat_eq_natCast];exact decide_eq_false (by omega)
  have hte:xs=ts:=by
   refine List.ext_getElem? fun j=>?_
   by_cases hj:(j:Int)<i
   ·exact h3 j hj
   ·rw [List.getElem?_eq_none (by omega),List.getElem?_eq_none (by omega)]
  have hRR:R=RF:=by rw [hV.hR,hRF,hte]
  have hdd:ds=dsF:=by rw [hV.hd,hdsF,hte]
  have hkk:k1=kr:=by
   rw [List.drop_eq_nil_of_le (by omega)] at hk1
   simp only [sumC] at hk1
   omega
  clear hK h3 h4 hV V0 hR0 hds0 hdsF hRF
  subst hRR hkk hdd
  cbv
  repeat' first | exact W1 | (simp only [e1];cbv) | refine WA ?_ ?_ | with_reducible intro hcc | refine WS ?_ | refine W6 ?_ | ((with_reducible first | refine hA.Len fun z hz hb=>?_ | refine hA.Off fun b hb=>?_ | refine hA.Plus fun b hb=>?_);cbv) | ((with_reducible first | refine hA.Sto ?_ fun ds hds=>?_ | refine hA.Sapp ?_ fun sl hsl=>?_);rotate_left;cbv) | refine WL ?_ | fail
  all_goals try simp only [hA.sm,n_cast] at *
  all_goals first
   | omega
   | exact finv_refl hA)
theorem ok43z (k:Int) (hk:0<=k) (hk2:k<=140737488355328):Plain Tryz.prog 43 [.e (.sl []),.int k] (.int k):=okOf mixed p43 fun A P hA hP=>(by
 obtain ⟨es,hes⟩: ∃es:List (List E),es= []:=⟨_,rfl⟩
 have hl:es.length=0:=by rw [hes];rfl
 obtain ⟨i0,hi0⟩: ∃i:Int,i=0:=⟨_,rfl⟩
 obtain ⟨z1,hz1⟩: ∃z:Int,z=es.length:=⟨_,rfl⟩
 rw [<-hes]
 cbv
 repeat' first | exact W1 | refine WA ?_ ?_ | with_reducible intro hcc | refine WS ?_ | refine W6 ?_ | ((with_reducible first | refine hA.Len fun z hz hb=>?_ | refine hA.Off fun b hb=>?_ | refine hA.Plus fun b hb=>?_);cbv) | ((with_reducible first | refine hA.Sto ?_ fun ds hds=>?_ | refine hA.Sapp ?_ fun sl hsl=>?_);rotate_left;cbv) | refine WL ?_ | fail
 all_goals try simp only [hA.sm,n_cast] at *
 all_goals try omega
 refine hA.loopI (fun m s=>s=⟨[(5,.int i0),(0,.e (.sl es)),(1,.int k)], []⟩) 0 _
   (Weak.keep (env':= [(5,.int i0),(0,.e (.sl es)),(1,.int k)]) ⟨by rw [hi0];rfl,rfl,rfl,trivial⟩) rfl ?_
 rintro m s K' rfl hK
 have e1:A.lt i0 z1=false:=by rw [hA.lt];exact decide_eq_false (by omega)
 cbv
 repeat' first | exact W1 | (simp only [e1];cbv) | refine WA ?_ ?_ | with_reducible intro hcc | refine WS ?_ | (refine hA.LenE hz1 fun hb=>?_;cbv) | refine W6 ?_ | ((with_reducible first | refine hA.Len fun z hz hb=>?_ | refine hA.Off fun b hb=>?_ | refine hA.Plus fun b hb=>?_);cbv) | ((with_reducible first | refine hA.Sto ?_ fun ds hds=>?_ | refine hA.Sapp ?_ fun sl hsl=>?_);rotate_left;cbv) | refine WL ?_ | fail
 all_goals try simp only [hA.sm,n_cast] at *
 all_goals first
  | omega)
theorem mark426 (i:Nat) (L:List Np) (k:Int) (hk:0<=k) (hk2:k+sumC cP L<=140737488355328) (hlen:L.length<=1048576) (hlx: ∀n∈L,n.Exs.2.length<=1048576):MarkC Tryz.prog 43 id (ePs i L) (ePs i (mkL mkP cP k L)) k (k+sumC cP L):=by
 have h0:=sumC_nonneg cP_nonneg L
 have hk1: ∀L:List Np,∀e∈L.map npr,e.length=7:=fun L e h=>by
  obtain ⟨p,_,rfl⟩:=List.mem_map.1 h
  rfl
 refine markOuter (k:=7) (sca_alike (k:=7) (fun _=>rfl) (fun a b j=>?_) L _ (mkL_len _ _ _ _)) (by simp [mkL_len]) (hk1 _) (NS.okV_int hk (by omega)) (fun h=>?_) (fun _ _ vs hvs=>?_) (hk1 _)
 ·match j with
  | 0 | 1 | 2 | 3 | 4 | 5 | 6=>rfl
  | j+7=>rfl
 ·have h:L= []:=by simpa using h
  have:=ok43z k hk (by omega)
  subst h
  simpa [sumC] using this
 ·exact w426 L vs hvs k hk hk2 hlen hlx
theorem mark416 (i:Nat) (L:List Np) (k:Int) (hk:0<=k) (hk2:k+sumC cP L<=140737488355328) (hlen:L.length<=1048576) (hlx: ∀n∈L,n.Exs.2.length<=1048576):
  MarkC Tryz.prog 15 (fun v=> .agg #[v]) (ePs i L) (ePs i (mkL mkP cP k L)) k (k+sumC cP L):=by
 have h0:=sumC_nonneg cP_nonneg L
 refine markStruct (d:=fun t=> .agg [.rv (t 0)]) (NS.okV_int hk (by omega)) (fun w G h r=>?_) (procOf mixed p15 one_side fun A P hA hP=>(by
  have hm:=mark426 i L k hk hk2 hlen hlx
  obtain ⟨R0,hR0⟩: ∃R,R=Tree (ePs i L):=⟨_,rfl⟩
  obtain ⟨R1,hR1⟩: ∃R,R=Tree (ePs i (mkL mkP cP k L)):=⟨_,rfl⟩
  obtain ⟨k2,hk2'⟩: ∃k2,k2=k+sumC cP L:=⟨_,rfl⟩
  rw [<-hk2'] at hm ⊢
  rw [<-hR0,<-hR1]
  have hcal: ∀f,CallE Tryz.prog 43 [.rv 0,.int k] [(0,.res R0)] f {d:=some (.int k2),wr:= [(0,.res R1)],tc:= [0]} :=fun f=>by
   rw [hR0,hR1]
   exact hm.callE fun _ _ _ _ r=>NS.rv_id r
  clear hm hR0 hR1 hk2'
  cbv
  repeat' first | exact W1 | refine WA ?_ ?_ | with_reducible intro hcc | refine WS ?_ | ((with_reducible show A.call _ _ _ _ _ 43 _ _ _);refine callK_res hA hP rfl ?_ hcal;cbv) | ((with_reducible refine res_fin hA ?_)) | refine W6 ?_ | refine WL ?_ | fail
  all_goals try simp only [hA.sm,n_cast] at *
  all_goals first
   | omega
   | rfl))
 ·refine .agg rfl (fun j c hc=>?_) fun j c d hc hd=>?_
  ·match j with
   | 0=>simp at hc;subst hc;exact rv_one r
   | j+1=>simp at hc
  ·match j with
   | 0=>simp at hc hd;subst hc;subst hd;exact r
   | j+1=>simp at hc
end Go.Proofs.YtfplalbognalkaaGreat.Ab
/- The laws' helpers over plans: measured, copied, alike. -/
namespace Go.Proofs.YtfplalbognalkaaGreat.Ab
open Go
def cPd (d:Pd):Int:=cO d.Ex+cOS d.Exs
theorem cPd_nonneg (d:Pd):0<=cPd d:=by have:=cO_nonneg d.Ex;have:=cOS_nonneg d.Exs;unfold cPd;omega
def cPS (ns:List Pd):Int:=ns.length+sumC cPd ns
theorem ok76 (K1 T1 M1:Int) (Ex1:List (Int×Int)) (Exs1:List (List (Int×Int))) (L1 R1:Int) (x1 y1:List (List E)) (hx1:x1=Ex1.map orow) (hy1:y1=Exs1.map orr) (left:Int) (h:0<=left/\left<=1048576):Plain Tryz.prog 76 [.agg [.int K1,.int T1,.int M1,.e (.sl x1),.e (.sl y1),.int L1,.int R1],.int left] (.int (cut left (cPd ⟨K1,T1,M1,Ex1,Exs1,L1,R1⟩))):=okOf mixed p76 fun A P hA hP=>(by
 obtain ⟨r,hr⟩: ∃r,r=cut left (cPd ⟨K1,T1,M1,Ex1,Exs1,L1,R1⟩):=⟨_,rfl⟩
 rw [<-hr]
 obtain ⟨c,hc⟩: ∃c,c=cO Ex1:=⟨_,rfl⟩
 obtain ⟨b,hb⟩: ∃b,b=left-c:=⟨_,rfl⟩
 have hc0:0<=c:=hc▸cO_nonneg _
 have hs:=cOS_nonneg Exs1
 have hr2:r=if b-cOS Exs1<0 then-1 else b-cOS Exs1:=by
  rw [hr,cut]
  show (if left-(cO Ex1+cOS Exs1)<0 then (-1:Int) else left-(cO Ex1+cOS Exs1))=_
  rw [<-hc,show left-(c+cOS Exs1)=b-cOS Exs1 by omega]
 have h30:=ok150' Ex1 x1 hx1 left h
 rw [<-hc] at h30
 obtain ⟨u,hu⟩: ∃u,u=cut left c:=⟨_,rfl⟩
 rw [<-hu] at h30
 rw [cut,<-hb] at hu
 clear hr hc
 by_cases hb0:b<0
 ·have hrr:r= -1:=by rw [hr2];split <;>omega
  rw [if_pos hb0] at hu
  have e1:A.lt u 0=true:=by rw [hA.lt];exact decide_eq_true (by omega)
  cbv
  repeat' first | exact W1 | (simp only [e1];cbv) | refine WA ?_ ?_ | with_reducible intro hcc | refine WS ?_ | refine WK hA hP ?_ | refine W6 ?_ | refine WL ?_ | fail
  all_goals try simp only [hA.sm,n_cast] at *
  all_goals first | omega | (rw [hrr];done)
 ·rw [if_neg hb0] at hu
  have e1:A.lt u 0=false:=by rw [hA.lt];exact decide_eq_false (by omega)
  have h311:Plain Tryz.prog 151 [.e (.sl y1),.int u] (.int r):=by rw [hr2,hu];exact ok151 Exs1 _ hy1 b (by omega)
  by_cases hr0:r<0
  ·have e2:A.lt r 0=true:=by rw [hA.lt];exact decide_eq_true hr0
   have hrr:r= -1:=by rw [hr2] at hr0 ⊢;split at hr0 <;>split <;>omega
   cbv
   repeat' first | exact W1 | (simp only [e1,e2];cbv) | refine WA ?_ ?_ | with_reducible intro hcc | refine WS ?_ | refine WK hA hP ?_ | refine W6 ?_ | refine WL ?_ | fail
   all_goals try simp only [hA.sm,n_cast] at *
   all_goals first | omega | (rw [hrr];done)
  ·have e2:A.lt r 0=false:=by rw [hA.lt];exact decide_eq_false hr0
   cbv
   repeat' first | exact W1 | (simp only [e1,e2];cbv) | refine WA ?_ ?_ | with_reducible intro hcc | refine WS ?_ | refine WK hA hP ?_ | refine W6 ?_ | refine WL ?_ | fail
   all_goals try simp only [hA.sm,n_cast] at *
   all_goals first | omega | rfl)
theorem ok31 (l:List (Pd)) (es:List (List E)) (he:es=l.map pdr) (left:Int) (h:0<=left/\left<=1048576):Plain Tryz.prog 31 [.e (.sl es),.int left] (.int (cut left (l.length+sumC cPd l))):=okOf mixed p31 fun A P hA hP=>(by
 have hl1:es.length=l.length:=by rw [he];simp
 have hsn: ∀l:List (Pd),0<=sumC cPd l:=sumC_nonneg cPd_nonneg
 obtain ⟨r,hr⟩: ∃r,r=cut left (l.length+sumC cPd l):=⟨_,rfl⟩
 rw [<-hr]
 have hr2:r=cut (left-es.length) (sumC cPd l):=by rw [hr,hl1,cut,cut];congr 1 <;>(try apply propext) <;>omega
 clear hr
 cbv
 repeat' first | exact W1 | refine WA ?_ ?_ | with_reducible intro hcc | refine WS ?_ | refine W6 ?_ | ((with_reducible first | refine hA.Len fun z hz hb=>?_ | refine hA.Off fun b hb=>?_);cbv) | ((with_reducible first | refine hA.Sapp ?_ fun sl hsl=>?_);rotate_left;cbv) | refine WL ?_ | fail
 all_goals try simp only [hA.sm,n_cast] at *
 all_goals try (first | omega | (have:=hb trivial trivial trivial;omega) | (have:r= -1:=(by simp only [decide_eq_true_eq] at *;have:=hsn l;rw [hr2];unfold cut;split <;>omega);rw [this];done))
 ·refine hA.loopI (fun n s=> ∃(i lf:Int),0<=i/\n+i=es.length/\0<=lf/\lf<=1048576/\r=cut lf (sumC cPd (l.drop i.toNat))/\
    s=⟨[(5,.int i),(0,.e (.sl es)),(1,.int lf),(4,.int 0)], []⟩) es.length _
   (Weak.keep (env':= [(5,.int 0),(0,.e (.sl es)),(1,.int (left-z)),(4,.int 0)]) ⟨rfl,rfl,rfl,rfl,trivial⟩) ⟨0,left-z,by omega,by omega,by simp only [decide_eq_false_iff_not] at *;omega,by omega,(by rw [hr2,hz];rfl),rfl⟩ ?_
  rintro n s K ⟨i,lf,h0,h1,h2,h3,h4,rfl⟩ hK
  clear hr2
  by_cases hin:(0:Int)<=i/\i<es.length
  ·obtain ⟨⟨K1,T1,M1,Ex1,Exs1,L1,R1⟩,e1,q1⟩:=row_at he hin
   obtain ⟨x1,hx1⟩: ∃x,x=Ex1.map orow:=⟨_,rfl⟩
   obtain ⟨y1,hy1⟩: ∃x,x=Exs1.map orr:=⟨_,rfl⟩
   have e1:es.getD i.toNat []= [E.int K1,E.int T1,E.int M1,E.sl x1,E.sl y1,E.int L1,E.int R1]:=e1.trans (by rw [hx1,hy1])
   rw [sumC_drop q1] at h4
   obtain ⟨S,hS⟩: ∃S,S=sumC cPd (l.drop (i.toNat+1)):=⟨_,rfl⟩
   have hS0:0<=S:=hS▸hsn _
   obtain ⟨c,hcost⟩: ∃c,c=cPd ⟨K1,T1,M1,Ex1,Exs1,L1,R1⟩:=⟨_,rfl⟩
   have hc0:0<=c:=hcost▸cPd_nonneg _
   have hc:=ok76 K1 T1 M1 Ex1 Exs1 L1 R1 x1 y1 hx1 hy1 lf ⟨h2,h3⟩
   rw [<-hS,<-hcost] at h4
   rw [<-hcost] at hc
   obtain ⟨u,hu⟩: ∃u,u=cut lf c:=⟨_,rfl⟩
   rw [<-hu] at hc
   have e8:(i+1).toNat=i.toNat+1:=by omega
   have g1:u<0->r= -1:=fun a=>by rw [h4];unfold cut at hu ⊢;split at hu <;>split <;>omega
   have g2:0<=u->r=cut u S/\u<=lf:=fun a=>by
    have hu2:u=lf-c:=by rw [hu] at a ⊢;unfold cut at a ⊢;split at a <;>split <;>omega
    refine ⟨?_,by omega⟩
    rw [h4,hu2]
    unfold cut
    rw [show lf-(c+S)=lf-c-S by omega]
   clear h4 hu hcost
   cbv
   repeat' first | exact W1 | refine WA ?_ ?_ | with_reducible intro hcc | refine WS ?_ | refine WK hA hP ?_ | (refine hA.RowE hin e1 ?_;cbv) | refine W6 ?_ | ((with_reducible first | refine hA.Len fun z hz hb=>?_ | refine hA.Off fun b hb=>?_);cbv) | ((with_reducible first | refine hA.Sapp ?_ fun sl hsl=>?_);rotate_left;cbv) | refine WL ?_ | fail
   all_goals try simp only [hA.sm,n_cast] at *
   all_goals first
    | omega
    | (clear hK g1 g2 he;simp at *;omega)
    | (rw [g1 (by clear hK g2;simp at *;omega)];done)
    | (have hu0:0<=u:=(by clear hK;simp at *;omega)
       exact hK _ (n-1) _ (by omega) (Weak.keep (env':= [(5,.int (i+1)),(0,.e (.sl es)),(1,.int u),(4,.int 0)]) ⟨rfl,rfl,rfl,rfl,trivial⟩) ⟨i+1,u,by omega,by omega,hu0,by have:=(g2 hu0).2;omega,by rw [e8,<-hS];exact (g2 hu0).1,rfl⟩)
    | (clear hK g1 g2 he;simp at *;omega)
  ·have hd:l.drop i.toNat= []:=by rw [List.drop_eq_nil_iff];omega
   rw [hd] at h4
   have h5:r=lf:=by rw [h4,sumC,cut,if_neg (by omega)];omega
   clear h4 hK
   cbv
   repeat' first | exact W1 | refine WA ?_ ?_ | with_reducible intro hcc | refine WS ?_ | (exfalso;simp only [hA.lt,hA.sub,decide_eq_true_eq,decide_eq_false_iff_not,n_cast] at *;omega) | refine W6 ?_ | ((with_reducible first | refine hA.Len fun z hz hb=>?_ | refine hA.Off fun b hb=>?_);cbv) | ((with_reducible first | refine hA.Sapp ?_ fun sl hsl=>?_);rotate_left;cbv) | refine WL ?_ | fail
   all_goals try simp only [hA.sm,n_cast] at *
   all_goals first
    | (rw [h5])
    | omega
    | (clear he;simp at *;omega))
theorem ok6 (ns:List Pd) (x:List (List E)) (hx:x=ns.map pdr) (left:Int) (h:0<=left/\left<=1048576):Plain Tryz.prog 6 [.agg [.e (.sl x)],.int left] (.int (cut left (cPS ns))):=okOf mixed p6 fun A P hA hP=>(by
 have h241:Plain Tryz.prog 31 [.e (.sl x),.int left] (.int (cut left (cPS ns))):=ok31 ns _ hx left h
 obtain ⟨u,hu⟩: ∃u,u=cut left (cPS ns):=⟨_,rfl⟩
 rw [<-hu] at h241 ⊢
 have hu2:u<0->u= -1:=fun a=>by rw [hu,cut] at a ⊢;split at a <;>split <;>omega
 clear hu
 cbv
 repeat' first | exact W1 | refine WA ?_ ?_ | with_reducible intro hcc | refine WS ?_ | refine WK hA hP ?_ | refine W6 ?_ | refine WL ?_ | fail
 all_goals try simp only [hA.sm,n_cast] at *
 all_goals first | rfl | omega | (rw [hu2 (by simp at *;omega)]))
theorem ok84 (K1 T1 M1:Int) (Ex1:List (Int×Int)) (Exs1:List (List (Int×Int))) (L1 R1:Int) (x1 y1:List (List E)) (hx1:x1=Ex1.map orow) (hy1:y1=Exs1.map orr) (h1:Ex1.length<=1048576) (h2:Exs1.length<=1048576) (h3: ∀e∈Exs1,e.length<=1048576):Plain Tryz.prog 84 [.agg [.int K1,.int T1,.int M1,.e (.sl x1),.e (.sl y1),.int L1,.int R1]] (.agg [.int K1,.int T1,.int M1,.e (.sl x1),.e (.sl y1),.int L1,.int R1]):=okOf mixed p84 fun A P hA hP=>(by
 have h32:=ok159 Ex1 x1 hx1 (by rw [hx1,List.length_map];exact h1)
 have h314:=ok160 Exs1 y1 hy1 (by rw [hy1,List.length_map];exact h2) h3
 cbv
 repeat' first | exact W1 | refine WA ?_ ?_ | with_reducible intro hcc | refine WS ?_ | refine WK hA hP ?_ | refine W6 ?_ | ((with_reducible first | refine hA.Sto ?_ fun ds hds=>?_);rotate_left;cbv) | refine WL ?_ | fail
 all_goals try simp only [hA.sm,n_cast] at *
 )
theorem ok35 (l:List (Pd)) (es:List (List E)) (he:es=l.map pdr) (hlen:es.length<=1048576) (hb2: ∀d∈l,d.Ex.length<=1048576/\d.Exs.length<=1048576/\ ∀e∈d.Exs,e.length<=1048576):Plain Tryz.prog 35 [.e (.sl es)] (.e (.sl es)):=okOf mixed p35 fun A P hA hP=>(by
 have hl1:es.length=l.length:=by rw [he];simp
 have hes: ∀e∈es,e.length=7:=by
  rw [he]
  intro e h
  obtain ⟨p,_,rfl⟩:=List.mem_map.1 h
  rfl
 cbv
 repeat' first | exact W1 | refine WA ?_ ?_ | with_reducible intro hcc | refine WS ?_ | refine W6 ?_ | ((with_reducible first | refine hA.Len fun z hz hb=>?_ | refine hA.Off fun b hb=>?_ | refine hA.Rep fun ds m hds hm=>?_);cbv) | ((with_reducible first | refine hA.Sto ?_ fun ds hds=>?_ | refine hA.Sapp ?_ fun sl hsl=>?_);rotate_left;cbv) | refine WL ?_ | fail
 all_goals try simp only [hA.sm,n_cast] at *
 ·omega
 ·omega
 ·refine hA.loopI (fun n s=> ∃(i:Int) (xs:List (List E)),0<=i/\n+i=es.length/\xs.length=es.length/\(∀e∈xs,e.length=7)/\(∀j:Nat,j<i->xs[j]?=es[j]?)/\
    s=⟨[(4,.int i),(3,.bs 0 0 m 7),(2,.zs),(0,.e (.sl es))], [.box (xs.flatten.map .e)]⟩) es.length _
   (Weak.keep (env':= [(4,.int 0),(3,.bs 0 0 m 7),(2,.zs),(0,.e (.sl es))]) ⟨rfl,rfl,rfl,rfl,trivial⟩)
   ⟨0,List.replicate m [E.int 0,E.int 0,E.int 0,E.sl [],E.sl [],E.int 0,E.int 0],by omega,by omega,by simp;omega,by simp,fun j hj=>by omega,by rw [<-buf_zero,hm];rw [hds];rfl⟩ ?_
  rintro n s K ⟨i,xs,h0,h1,h2,h3,h4,rfl⟩ hK
  obtain ⟨ys,hys⟩: ∃ys,ys=xs.flatten.map D.e:=⟨_,rfl⟩
  have hyl:ys.length=xs.length * 7:=by rw [hys,List.length_map,flatten_len h3]
  rw [<-hys]
  by_cases hin:(0:Int)<=i/\i<es.length
  ·obtain ⟨⟨K1,T1,M1,Ex1,Exs1,L1,R1⟩,e1,q1⟩:=row_at he hin
   obtain ⟨x1,hx1⟩: ∃x,x=Ex1.map orow:=⟨_,rfl⟩
   obtain ⟨y1,hy1⟩: ∃x,x=Exs1.map orr:=⟨_,rfl⟩
   have e1:es.getD i.toNat []= [E.int K1,E.int T1,E.int M1,E.sl x1,E.sl y1,E.int L1,E.int R1]:=e1.trans (by rw [hx1,hy1])
   have hc:=ok84 K1 T1 M1 Ex1 Exs1 L1 R1 x1 y1 hx1 hy1 (hb2 _ (List.mem_of_getElem? q1)).1 (hb2 _ (List.mem_of_getElem? q1)).2.1 (hb2 _ (List.mem_of_getElem? q1)).2.2
   have hrow0:es[i.toNat]?=some (es.getD i.toNat []):=by
    have:i.toNat<es.length:=by omega
    simp [List.getD,this]
   have hrl:(es.getD i.toNat []).length=7:=hes _ (List.mem_of_getElem? hrow0)
   cbv
   repeat' first | exact W1 | refine WA ?_ ?_ | with_reducible intro hcc | refine WS ?_ | refine WK hA hP ?_ | (refine hA.RowE hin e1 ?_;cbv) | refine W6 ?_ | ((with_reducible first | refine hA.Len fun z hz hb=>?_ | refine hA.Off fun b hb=>?_ | refine hA.Rep fun ds m hds hm=>?_);cbv) | ((with_reducible first | refine hA.Sto ?_ fun ds hds=>?_ | refine hA.Sapp ?_ fun sl hsl=>?_);rotate_left;cbv) | refine WL ?_ | fail
   all_goals try simp only [hA.sm,n_cast] at *
   all_goals first
    | (show _<(m:Int);omega)
    | omega
    | (clear hK h4 he;grind;done)
    | (have hb':b=i.toNat * 7:=by omega
       refine hK _ (n-1) _ (by omega) (Weak.keep (env':= [(4,.int (i+1)),(3,.bs 0 0 m 7),(2,.zs),(0,.e (.sl es))]) ⟨rfl,rfl,rfl,rfl,trivial⟩)
        ⟨i+1,xs.set i.toNat (es.getD i.toNat []),by omega,by omega,by simp [h2],fun e h=>?_,fun j hj=>?_,?_⟩
       ·rcases List.mem_or_eq_of_mem_set h with h | rfl
        ·exact h3 e h
        ·exact hrl
       ·by_cases hji:(j:Int)<i
        ·rw [List.getElem?_set_ne (show i.toNat≠j by omega)];exact h4 j hji
        ·have:j=i.toNat:=by omega
         subst this
         rw [List.getElem?_set_self (show i.toNat<xs.length by omega),hrow0]
       ·congr 2
        rw [hds,hys,hb']
        congr 1
        have q:=buf_set (k:=7) (by omega) h3 (i:=i.toNat) (show i.toNat<xs.length by omega) hrl
        rw [e1] at q ⊢
        exact q)
  ·have hxe:xs=es:=by
    refine List.ext_getElem? fun j=>?_
    by_cases hj:(j:Int)<i
    ·exact h4 j hj
    ·rw [List.getElem?_eq_none (by omega),List.getElem?_eq_none (by omega)]
   cbv
   repeat' first | exact W1 | refine WA ?_ ?_ | with_reducible intro hcc | refine WS ?_ | (exfalso;simp only [hA.lt,hA.sub,decide_eq_true_eq,decide_eq_false_iff_not,n_cast] at *;omega) | ((with_reducible refine hA.fin_bs (es:=es) ?_ ?_ hes)) | refine W6 ?_ | ((with_reducible first | refine hA.Len fun z hz hb=>?_ | refine hA.Off fun b hb=>?_ | refine hA.Rep fun ds m hds hm=>?_);cbv) | ((with_reducible first | refine hA.Sto ?_ fun ds hds=>?_ | refine hA.Sapp ?_ fun sl hsl=>?_);rotate_left;cbv) | refine WL ?_ | fail
   all_goals try simp only [hA.sm,n_cast] at *
   all_goals first
    | (rw [hys,hxe];rfl)
    | omega
    | (clear hK h4 he;grind;done))
theorem ok9 (ns:List Pd) (x:List (List E)) (hx:x=ns.map pdr) (h1:ns.length<=1048576) (h2: ∀d∈ns,d.Ex.length<=1048576/\d.Exs.length<=1048576/\ ∀e∈d.Exs,e.length<=1048576):Plain Tryz.prog 9 [.agg [.e (.sl x)]] (.agg [.e (.sl x)]):=okOf mixed p9 fun A P hA hP=>(by
 have h244:=ok35 ns x hx (by rw [hx,List.length_map];exact h1) h2
 cbv
 repeat' first | exact W1 | refine WA ?_ ?_ | with_reducible intro hcc | refine WS ?_ | refine WK hA hP ?_ | refine W6 ?_ | ((with_reducible first | refine hA.Sto ?_ fun ds hds=>?_);rotate_left;cbv) | refine WL ?_ | fail
 all_goals try simp only [hA.sm,n_cast] at *
 )
theorem ok93 (K1 T1 M1:Int) (Ex1:List (Int×Int)) (Exs1:List (List (Int×Int))) (L1 R1:Int) (x1 y1:List (List E)) (hx1:x1=Ex1.map orow) (hy1:y1=Exs1.map orr) (K2 T2 M2:Int) (Ex2:List (Int×Int)) (Exs2:List (List (Int×Int))) (L2 R2:Int) (x2 y2:List (List E)) (hx2:x2=Ex2.map orow) (hy2:y2=Exs2.map orr):
  Plain Tryz.prog 93 [.agg [.int K1,.int T1,.int M1,.e (.sl x1),.e (.sl y1),.int L1,.int R1],.agg [.int K2,.int T2,.int M2,.e (.sl x2),.e (.sl y2),.int L2,.int R2]] (.bool (decide ((⟨K1,T1,M1,Ex1,Exs1,L1,R1⟩:Pd)=⟨K2,T2,M2,Ex2,Exs2,L2,R2⟩))):=okOf mixed p93 fun A P hA hP=>(by
 have h34:=ok166 Ex1 Ex2 x1 x2 hx1 hx2
 have h320:=ok167 Exs1 Exs2 y1 y2 hy1 hy2
 obtain ⟨c,hc⟩: ∃c,c=decide (Ex1=Ex2):=⟨_,rfl⟩
 rw [<-hc] at h34
 obtain ⟨d,hd⟩: ∃c,c=decide (Exs1=Exs2):=⟨_,rfl⟩
 rw [<-hd] at h320
 obtain ⟨r,hr⟩: ∃r,r=decide ((⟨K1,T1,M1,Ex1,Exs1,L1,R1⟩:Pd)=⟨K2,T2,M2,Ex2,Exs2,L2,R2⟩):=⟨_,rfl⟩
 rw [<-hr]
 have hr2:r=(decide (K1=K2)&&(decide (T1=T2)&&(decide (M1=M2)&&((c&&(d&&(decide (L1=L2)&&decide (R1=R2)))))))):=by rw [hr,hc,hd];simp
 clear hr hc hd
 cbv
 repeat' first | exact W1 | refine WA ?_ ?_ | with_reducible intro hcc | refine WS ?_ | refine WK hA hP ?_ | refine W6 ?_ | refine WL ?_ | fail
 all_goals try simp only [hA.sm,n_cast] at *
 all_goals first | rfl | (clear h34 h320;grind;done) | (clear h34 h320;simp at *;grind;done))
theorem ok41 (l l':List (Pd)) (es fs:List (List E)) (he:es=l.map pdr) (hf:fs=l'.map pdr):Plain Tryz.prog 41 [.e (.sl es),.e (.sl fs)] (.bool (decide (l=l'))):=okOf mixed p41 fun A P hA hP=>(by
 obtain ⟨r,hr⟩: ∃r:Bool,r=decide (l=l'):=⟨_,rfl⟩
 rw [<-hr]
 have hl1:es.length=l.length:=by rw [he];simp
 have hl2:fs.length=l'.length:=by rw [hf];simp
 cbv
 repeat' first | exact W1 | refine WA ?_ ?_ | with_reducible intro hcc | refine WS ?_ | refine W6 ?_ | ((with_reducible first | refine hA.Len fun z hz hb=>?_ | refine hA.Off fun b hb=>?_);cbv) | ((with_reducible first | refine hA.Sapp ?_ fun sl hsl=>?_);rotate_left;cbv) | refine WL ?_ | fail
 all_goals try simp only [hA.sm,n_cast] at *
 ·have:l≠l':=fun e=>by subst e;clear hr;grind
  rw [hr];simp [this]
 ·have hzz:es.length=fs.length:=by clear hr;grind
  refine hA.loopI (fun n s=> ∃i:Int,0<=i/\n+i=l.length/\(∀j:Nat,j<i->l[j]?=l'[j]?)/\s=⟨[(5,.int i),(4,.bool false),(0,.e (.sl es)),(1,.e (.sl fs))], []⟩) l.length _ (Weak.keep (env':= [(5,.int 0),(4,.bool false),(0,.e (.sl es)),(1,.e (.sl fs))]) ⟨rfl,rfl,rfl,rfl,trivial⟩) ⟨0,by omega,by omega,fun j hj=>by omega,rfl⟩ ?_
  rintro n s K ⟨i,h0,h1,h2,rfl⟩ hK
  by_cases hin:(0:Int)<=i/\i<es.length
  ·have hin2:(0:Int)<=i/\i<fs.length:=by omega
   obtain ⟨⟨K1,T1,M1,Ex1,Exs1,L1,R1⟩,e1,q1⟩:=row_at he hin
   obtain ⟨⟨K2,T2,M2,Ex2,Exs2,L2,R2⟩,e2,q2⟩:=row_at hf hin2
   obtain ⟨x1,hx1⟩: ∃x,x=Ex1.map orow:=⟨_,rfl⟩
   obtain ⟨y1,hy1⟩: ∃x,x=Exs1.map orr:=⟨_,rfl⟩
   have e1:es.getD i.toNat []= [E.int K1,E.int T1,E.int M1,E.sl x1,E.sl y1,E.int L1,E.int R1]:=e1.trans (by rw [hx1,hy1])
   obtain ⟨x2,hx2⟩: ∃x,x=Ex2.map orow:=⟨_,rfl⟩
   obtain ⟨y2,hy2⟩: ∃x,x=Exs2.map orr:=⟨_,rfl⟩
   have e2:fs.getD i.toNat []= [E.int K2,E.int T2,E.int M2,E.sl x2,E.sl y2,E.int L2,E.int R2]:=e2.trans (by rw [hx2,hy2])
   have hc:=ok93 K1 T1 M1 Ex1 Exs1 L1 R1 x1 y1 hx1 hy1 K2 T2 M2 Ex2 Exs2 L2 R2 x2 y2 hx2 hy2
   obtain ⟨c,hcc⟩: ∃c:Bool,c=decide ((⟨K1,T1,M1,Ex1,Exs1,L1,R1⟩:Pd)=⟨K2,T2,M2,Ex2,Exs2,L2,R2⟩):=⟨_,rfl⟩
   rw [<-hcc] at hc
   have c1:c=false->r=false:=fun e=>by
    rw [hr,decide_eq_false_iff_not]
    intro e'
    subst e'
    rw [q1] at q2
    cases q2
    rw [e] at hcc
    simp at hcc
   have c2:c=true->l[i.toNat]?=l'[i.toNat]?:=fun e=>by
    rw [e] at hcc
    rw [q1,q2,of_decide_eq_true hcc.symm]
   clear hcc hr
   cbv
   repeat' first | exact W1 | refine WA ?_ ?_ | with_reducible intro hcc | refine WS ?_ | refine WK hA hP ?_ | (refine hA.RowE hin e1 ?_;cbv) | (refine hA.RowE hin2 e2 ?_;cbv) | refine W6 ?_ | ((with_reducible first | refine hA.Len fun z hz hb=>?_ | refine hA.Off fun b hb=>?_);cbv) | ((with_reducible first | refine hA.Sapp ?_ fun sl hsl=>?_);rotate_left;cbv) | refine WL ?_ | fail
   all_goals try simp only [hA.sm,n_cast] at *
   all_goals first
    | omega
    | (refine hK _ (n-1) _ (by omega) (Weak.gc (env':= [(5,.int (i+1)),(4,.bool false),(0,.e (.sl es)),(1,.e (.sl fs))]) ⟨rfl,rfl,rfl,rfl,trivial⟩ rfl) ⟨i+1,by omega,by omega,fun j hj=>?_,rfl⟩
       by_cases hji:(j:Int)<i
       ·exact h2 j hji
       ·have:j=i.toNat:=by omega
        rw [this]
        exact c2 (by clear hK h2;grind))
    | (clear hK h2 he hf e1 e2;grind;done)
  ·have hll:l=l':=by
    refine List.ext_getElem? fun j=>?_
    by_cases hj:(j:Int)<i
    ·exact h2 j hj
    ·rw [List.getElem?_eq_none (by omega),List.getElem?_eq_none (by omega)]
   have hr2:r=true:=by rw [hr,hll];simp
   clear hr
   cbv
   repeat' first | exact W1 | refine WA ?_ ?_ | with_reducible intro hcc | refine WS ?_ | (exfalso;simp only [hA.lt,hA.sub,decide_eq_true_eq,decide_eq_false_iff_not,n_cast] at *;omega) | refine W6 ?_ | ((with_reducible first | refine hA.Len fun z hz hb=>?_ | refine hA.Off fun b hb=>?_);cbv) | ((with_reducible first | refine hA.Sapp ?_ fun sl hsl=>?_);rotate_left;cbv) | refine WL ?_ | fail
   all_goals try simp only [hA.sm,n_cast] at *
   all_goals first
    | (rw [hr2])
    | omega
    | (clear hK h2 hll he hf;grind;done))
theorem ok13 (ns ns':List Pd) (x x':List (List E)) (hx:x=ns.map pdr) (hx':x'=ns'.map pdr):Plain Tryz.prog 13 [.agg [.e (.sl x)],.agg [.e (.sl x')]] (.bool (decide (ns=ns'))):=okOf mixed p13 fun A P hA hP=>(by
 have h246:=ok41 ns ns' x x' hx hx'
 obtain ⟨c,hc⟩: ∃c,c=decide (ns=ns'):=⟨_,rfl⟩
 rw [<-hc] at h246 ⊢
 cases c
 all_goals
  cbv
  repeat' first | exact W1 | refine WA ?_ ?_ | with_reducible intro hcc | refine WS ?_ | refine WK hA hP ?_ | refine W6 ?_ | refine WL ?_ | fail
  all_goals try simp only [hA.sm,n_cast] at *
  all_goals first | rfl | trivial)
end Go.Proofs.YtfplalbognalkaaGreat.Ab
/- Copies of plans, with numbers. -/
namespace Go.Proofs.YtfplalbognalkaaGreat.Ab
open Go
def nP (q:Nat) (d:Pd):Np:=⟨d.K,d.T,d.M,nX q d.Ex,nXs (q+1) d.Exs,d.L,d.R⟩
def sP (d:Pd):Nat:=d.Exs.length+2
theorem m291 (q0:Nat) (d:Pd) (x1 y1:List (List E)) (hx1:x1=d.Ex.map orow) (hy1:y1=d.Exs.map orr) (h1:d.Ex.length<=1048576) (h2:d.Exs.length<=1048576) (h3: ∀e∈d.Exs,e.length<=1048576):
  Proc Tryz.prog 84 (fun _=> [.agg ([E.int d.K,E.int d.T,E.int d.M,E.sl x1,E.sl y1,E.int d.L,E.int d.R].map .e)]) (fun _=> [.ids q0]) (fun _=> .agg ((npr (nP q0 d)).map .e)) (fun _=> [.ids (q0+sP d)]):=procOf mixed p84 agg_side fun A P hA hP=>(by
 obtain ⟨K1,T1,M1,Ex1,Exs1,L1,R1⟩:=d
 have h32:=m32 q0 Ex1 x1 hx1 (by rw [hx1,List.length_map];exact h1)
 have h314:=m314 (q0+1) Exs1 y1 hy1 (by rw [hy1,List.length_map];exact h2) h3
 obtain ⟨X1,hX1⟩: ∃X,X=eX (q0,Ex1):=⟨_,rfl⟩
 obtain ⟨X2,hX2⟩: ∃X,X=eXs (nXs (q0+1) Exs1):=⟨_,rfl⟩
 obtain ⟨q1,hq1⟩: ∃q,q=q0+1:=⟨_,rfl⟩
 obtain ⟨q2,hq2⟩: ∃q,q=q1+Exs1.length+1:=⟨_,rfl⟩
 have hr:(npr (nP q0 ⟨K1,T1,M1,Ex1,Exs1,L1,R1⟩)).map D.e= [.int K1,.int T1,.int M1,.e X1,.e X2,.int L1,.int R1]:=by
  simp only [nP,npr,nX,List.map_cons,List.map_nil,hX1,hX2]
 have hs:q0+sP ⟨K1,T1,M1,Ex1,Exs1,L1,R1⟩=q2:=by rw [hq2,hq1];simp only [sP];omega
 rw [hr,hs]
 rw [<-hX1,<-hq1] at h32
 rw [<-hX2,<-hq1,<-hq2] at h314
 clear hr hs hX1 hX2 hq1 hq2
 cbv
 repeat' first | exact W1 | refine WA ?_ ?_ | with_reducible intro hcc | refine WS ?_ | ((with_reducible show A.call _ _ _ _ _ 159 _ _ _);have hc:=h32;refine callK_pr hA hP [0] (by rfl) (by exact ⟨rfl,trivial⟩) (Wks.refl _) ?_ (fun _ _=>hc) hc.side;cbv) | ((with_reducible show A.call _ _ _ _ _ 160 _ _ _);have hc:=h314;refine callK_pr hA hP [0] (by rfl) (by exact ⟨rfl,trivial⟩) (Wks.refl _) ?_ (fun _ _=>hc) hc.side;cbv) | ((with_reducible refine hA.finv _ _ _ _ _ (finv_tok (t:=0) rfl ?_ ?_))) | refine W6 ?_ | ((with_reducible first | refine hA.Sto ?_ fun ds hds=>?_);rotate_left;cbv) | refine WL ?_ | fail
 all_goals try simp only [hA.sm,n_cast] at *
 all_goals first
  | rfl)
theorem n244 (q0:Nat) (l:List (Pd)) (es:List (List E)) (he:es=l.map pdr) (hlen:es.length<=1048576) (hb2: ∀d∈l,d.Ex.length<=1048576/\d.Exs.length<=1048576/\ ∀e∈d.Exs,e.length<=1048576):
  Proc Tryz.prog 35 (fun _=> [.e (.sl es)]) (fun _=> [.ids q0]) (fun _=> .e (.fs (q0+sumN sP l) ((numL nP sP q0 l).map npr))) (fun _=> [.ids (q0+sumN sP l+1)]):=procOf mixed p35 (NS.tok_side (es:= [.sl es])) fun A P hA hP=>(by
 have hl1:es.length=l.length:=by rw [he];simp
 obtain ⟨ts,hts⟩: ∃ts,ts=(numL nP sP q0 l).map npr:=⟨_,rfl⟩
 have htl:ts.length=es.length:=by rw [hts,hl1,List.length_map,numL_len]
 have htk: ∀e∈ts,e.length=7:=by
  rw [hts]
  intro e h
  obtain ⟨p,_,rfl⟩:=List.mem_map.1 h
  rfl
 obtain ⟨qe,hqe⟩: ∃q,q=q0+sumN sP l:=⟨_,rfl⟩
 rw [<-hts,<-hqe]
 cbv
 repeat' first | exact W1 | refine WA ?_ ?_ | with_reducible intro hcc | refine WS ?_ | refine W6 ?_ | ((with_reducible first | refine hA.Len fun z hz hb=>?_ | refine hA.Off fun b hb=>?_ | refine hA.Rep fun ds m hds hm=>?_);cbv) | ((with_reducible first | refine hA.Sto ?_ fun ds hds=>?_ | refine hA.Sapp ?_ fun sl hsl=>?_);rotate_left;cbv) | refine WL ?_ | fail
 all_goals try simp only [hA.sm,n_cast] at *
 ·omega
 ·omega
 ·refine hA.loopI (fun n s=> ∃(i:Int) (qi:Nat) (xs:List (List E)),0<=i/\n+i=es.length/\qi=q0+sumN sP (l.take i.toNat)/\xs.length=es.length/\(∀e∈xs,e.length=7)/\(∀j:Nat,j<i->xs[j]?=ts[j]?)/\
    s=⟨[(4,.int i),(3,.bs 1 0 m 7),(2,.zs),(0,.e (.sl es))], [.ids qi,.box (xs.flatten.map .e)]⟩) es.length _
   (Weak.keep (env':= [(4,.int 0),(3,.bs 1 0 m 7),(2,.zs),(0,.e (.sl es))]) ⟨rfl,rfl,rfl,rfl,trivial⟩)
   ⟨0,q0,List.replicate m [E.int 0,E.int 0,E.int 0,E.sl [],E.sl [],E.int 0,E.int 0],by omega,by omega,by simp [sumN],by simp;omega,by simp,fun j hj=>by omega,by rw [<-buf_zero,hm];rw [hds];rfl⟩ ?_
  rintro n s K ⟨i,qi,xs,h0,h1,hq,h2,h3,h4,rfl⟩ hK
  obtain ⟨ys,hys⟩: ∃ys,ys=xs.flatten.map D.e:=⟨_,rfl⟩
  have hyl:ys.length=xs.length * 7:=by rw [hys,List.length_map,flatten_len h3]
  rw [<-hys]
  by_cases hin:(0:Int)<=i/\i<es.length
  ·obtain ⟨⟨K1,T1,M1,Ex1,Exs1,L1,R1⟩,e1,q1⟩:=row_at he hin
   have hmem:=List.mem_of_getElem? q1
   have htk1:=sumN_take (s:=sP) q1
   obtain ⟨x1,hx1⟩: ∃x,x=Ex1.map orow:=⟨_,rfl⟩
   obtain ⟨y1,hy1⟩: ∃x,x=Exs1.map orr:=⟨_,rfl⟩
   have e1:es.getD i.toNat []= [E.int K1,E.int T1,E.int M1,E.sl x1,E.sl y1,E.int L1,E.int R1]:=e1.trans (by rw [hx1,hy1])
   obtain ⟨qj,hqj⟩: ∃q,q=qi+sP ⟨K1,T1,M1,Ex1,Exs1,L1,R1⟩:=⟨_,rfl⟩
   obtain ⟨X1,hX1⟩: ∃X,X=eX (qi,Ex1):=⟨_,rfl⟩
   obtain ⟨X2,hX2⟩: ∃X,X=eXs (nXs (qi+1) Exs1):=⟨_,rfl⟩
   have hr:npr (nP qi ⟨K1,T1,M1,Ex1,Exs1,L1,R1⟩)= [E.int K1,E.int T1,E.int M1,X1,X2,E.int L1,E.int R1]:=by
    simp only [nP,npr,nX,hX1,hX2]
   have hc:Proc Tryz.prog 84 (fun _=> [.agg ([E.int K1,E.int T1,E.int M1,E.sl x1,E.sl y1,E.int L1,E.int R1].map .e)]) (fun _=> [.ids qi]) (fun _=> .agg (([E.int K1,E.int T1,E.int M1,X1,X2,E.int L1,E.int R1]:List E).map .e)) (fun _=> [.ids qj]):=by
    rw [<-hr,hqj]
    exact m291 qi ⟨K1,T1,M1,Ex1,Exs1,L1,R1⟩ x1 y1 hx1 hy1 (hb2 _ hmem).1 (hb2 _ hmem).2.1 (hb2 _ hmem).2.2
   have hrow0:ts[i.toNat]?=some [E.int K1,E.int T1,E.int M1,X1,X2,E.int L1,E.int R1]:=by
    rw [hts,List.getElem?_map,numL_get,q1]
    try rw [<-hq]
    simp only [Option.map_some,hr]
    try rfl
   clear hts
   cbv
   repeat' first | exact W1 | refine WA ?_ ?_ | with_reducible intro hcc | refine WS ?_ | ((with_reducible show A.call _ _ _ _ _ 84 _ _ _);have hc:=hc;refine callK_pr hA hP [0] (by rfl) (by exact ⟨rfl,trivial⟩) (Wks.refl _) ?_ (fun _ _=>hc) hc.side;cbv) | (refine hA.RowE hin e1 ?_;cbv) | refine W6 ?_ | ((with_reducible first | refine hA.Len fun z hz hb=>?_ | refine hA.Off fun b hb=>?_ | refine hA.Rep fun ds m hds hm=>?_);cbv) | ((with_reducible first | refine hA.Sto ?_ fun ds hds=>?_ | refine hA.Sapp ?_ fun sl hsl=>?_);rotate_left;cbv) | refine WL ?_ | fail
   all_goals try simp only [hA.sm,n_cast] at *
   all_goals first
    | (show _<(m:Int);omega)
    | omega
    | (clear hK h4 he;grind;done)
    | (have hb':b=i.toNat * 7:=by omega
       refine hK _ (n-1) _ (by omega) (Weak.keep (env':= [(4,.int (i+1)),(3,.bs 1 0 m 7),(2,.zs),(0,.e (.sl es))]) ⟨rfl,rfl,rfl,rfl,trivial⟩)
        ⟨i+1,qj,xs.set i.toNat [E.int K1,E.int T1,E.int M1,X1,X2,E.int L1,E.int R1],by omega,by omega,by rw [show (i+1).toNat=i.toNat+1 by omega,htk1];omega,by simp [h2],fun e h=>?_,fun j hj=>?_,?_⟩
       ·rcases List.mem_or_eq_of_mem_set h with h | rfl
        ·exact h3 e h
        ·rfl
       ·by_cases hji:(j:Int)<i
        ·rw [List.getElem?_set_ne (show i.toNat≠j by omega)];exact h4 j hji
        ·have:j=i.toNat:=by omega
         subst this
         rw [List.getElem?_set_self (show i.toNat<xs.length by omega),hrow0]
       ·congr 3
        rw [hds,hys,hb']
        congr 1
        exact buf_set (k:=7) (by omega) h3 (i:=i.toNat) (show i.toNat<xs.length by omega) (r:= [E.int K1,E.int T1,E.int M1,X1,X2,E.int L1,E.int R1]) rfl)
  ·have hxe:xs=ts:=by
    refine List.ext_getElem? fun j=>?_
    by_cases hj:(j:Int)<i
    ·exact h4 j hj
    ·rw [List.getElem?_eq_none (by omega),List.getElem?_eq_none (by omega)]
   have hqq:qi=qe:=by rw [hq,hqe,List.take_of_length_le (by omega)]
   subst hqq
   cbv
   repeat' first | exact W1 | refine WA ?_ ?_ | with_reducible intro hcc | refine WS ?_ | (exfalso;simp only [hA.lt,hA.sub,decide_eq_true_eq,decide_eq_false_iff_not,n_cast] at *;omega) | ((with_reducible refine hA.finv _ _ _ _ _ (finv_bsFs (t:=0) (es:=ts) rfl ?_ ?_ htk))) | refine W6 ?_ | ((with_reducible first | refine hA.Len fun z hz hb=>?_ | refine hA.Off fun b hb=>?_ | refine hA.Rep fun ds m hds hm=>?_);cbv) | ((with_reducible first | refine hA.Sto ?_ fun ds hds=>?_ | refine hA.Sapp ?_ fun sl hsl=>?_);rotate_left;cbv) | refine WL ?_ | fail
   all_goals try simp only [hA.sm,n_cast] at *
   all_goals first
    | (rw [hys,hxe];rfl)
    | omega
    | (clear hK h4 he;grind;done))
theorem m217 (q0:Nat) (ns:List Pd) (x:List (List E)) (hx:x=ns.map pdr) (h1:ns.length<=1048576) (h2: ∀d∈ns,d.Ex.length<=1048576/\d.Exs.length<=1048576/\ ∀e∈d.Exs,e.length<=1048576):
  Proc Tryz.prog 9 (fun _=> [.agg [.e (.sl x)]]) (fun _=> [.ids q0]) (fun _=> .agg [.e (ePs (q0+sumN sP ns) (numL nP sP q0 ns))]) (fun _=> [.ids (q0+sumN sP ns+1)]):=procOf mixed p9 (agg_side (az:= [.sl x]) (ds:= [_])) fun A P hA hP=>(by
 have h244:=n244 q0 ns x hx (by rw [hx,List.length_map];exact h1) h2
 obtain ⟨X1,hX1⟩: ∃X,X=ePs (q0+sumN sP ns) (numL nP sP q0 ns):=⟨_,rfl⟩
 obtain ⟨q1,hq1⟩: ∃q,q=q0+sumN sP ns+1:=⟨_,rfl⟩
 have h244:Proc Tryz.prog 35 (fun _=> [.e (.sl x)]) (fun _=> [.ids q0]) (fun _=> .e X1) (fun _=> [.ids q1]):=by
  rw [hX1,hq1]
  exact h244
 rw [<-hX1,<-hq1]
 clear hX1 hq1
 cbv
 repeat' first | exact W1 | refine WA ?_ ?_ | with_reducible intro hcc | refine WS ?_ | ((with_reducible show A.call _ _ _ _ _ 35 _ _ _);have hc:=h244;refine callK_pr hA hP [0] (by rfl) (by exact ⟨rfl,trivial⟩) (Wks.refl _) ?_ (fun _ _=>hc) hc.side;cbv) | ((with_reducible refine hA.finv _ _ _ _ _ (finv_tok (t:=0) rfl ?_ ?_))) | refine W6 ?_ | ((with_reducible first | refine hA.Sto ?_ fun ds hds=>?_);rotate_left;cbv) | refine WL ?_ | fail
 all_goals try simp only [hA.sm,n_cast] at *
 all_goals first
  | rfl)
def pNums (n:Np):List Nat:=xNums n.Ex++xsNums n.Exs
theorem npr_nums: ∀L:List Np,numss (L.map npr)=some (L.map pNums).flatten
 | []=>rfl
 | n::L=>by
  simp only [List.map_cons,numss,numsr,eX_nums,eXs_nums,npr_nums L,E.nums,List.flatten_cons,List.append_nil,List.nil_append,pNums]
theorem nP_nums (q:Nat) (d:Pd):(pNums (nP q d)).Nodup/\ ∀k∈pNums (nP q d),q<=k/\k<q+sP d:=
 nF_nums q ⟨d.K,d.T,d.M,0,d.Ex,d.Exs,d.L,d.R⟩
theorem numP_ok (q:Nat): ∀l:List Pd,((numL nP sP q l).map pNums).flatten.Nodup/\ ∀n∈((numL nP sP q l).map pNums).flatten,q<=n/\n<q+sumN sP l
 | []=>⟨List.nodup_nil,fun n h=>by cases h⟩
 | d::l=>by
  obtain ⟨h1,h2⟩:=nP_nums q d
  obtain ⟨h3,h4⟩:=numP_ok (q+sP d) l
  simp only [numL,List.map_cons,List.flatten_cons,sumN]
  refine ⟨List.nodup_append.2 ⟨h1,h3,fun a ha b hb=>?_⟩,fun n hn=>?_⟩
  ·have:=h2 a ha;have:=h4 b hb;omega
  ·rcases List.mem_append.1 hn with hn | hn
   ·have:=h2 n hn;omega
   ·have:=h4 n hn;omega
theorem ePs_nums (q i:Nat) (l:List Pd) (hi:q+sumN sP l<=i): ∃ns,(ePs i (numL nP sP q l)).nums=some ns/\ns.Nodup:=by
 obtain ⟨h1,h2⟩:=numP_ok q l
 unfold ePs
 generalize numL nP sP q l=L at h1 h2
 cases L with
 | nil=>exact ⟨[],rfl,List.nodup_nil⟩
 | cons n L=>
  refine ⟨i::((n::L).map pNums).flatten,?_,List.nodup_cons.2 ⟨fun hm=>?_,h1⟩⟩
  ·rw [NS.nums_ne (by simp),npr_nums]
   rfl
  ·have:=h2 i hm;omega
theorem nP_d (q:Nat) (d:Pd):(nP q d).d=d:=by
 have:=nF_d q ⟨d.K,d.T,d.M,0,d.Ex,d.Exs,d.L,d.R⟩
 obtain ⟨K,T,M,Ex,Exs,L,R⟩:=d
 simp only [nF,Nf.d,Fd.mk.injEq,true_and,and_true] at this
 simp only [nP,Np.d,Pd.mk.injEq,true_and,and_true]
 exact this
theorem numP_d (q:Nat): ∀l:List Pd,(numL nP sP q l).map Np.d=l
 | []=>rfl
 | d::l=>by rw [numL,List.map_cons,nP_d,numP_d _ l]
theorem cPs_le (q:Nat): ∀l:List Pd,sumC cP (numL nP sP q l)<=5 * l.length+2 * sumC cPd l
 | []=>by simp [numL,sumC]
 | d::l=>by
  have h1:=cPs_le (q+sP d) l
  have h2:cP (nP q d)=5+cX (nX q d.Ex)+cXs (nXs (q+1) d.Exs):=rfl
  have h3:cX (nX q d.Ex)=2 * d.Ex.length:=cX_len _
  have h4: ∀(q:Nat) (l:List (List (Int×Int))),sumC cX (numL nX one1 q l)=2 * sumC cO l:=fun q l=>by
   induction l generalizing q with
   | nil=>rfl
   | cons a l ih=>
    simp only [numL,sumC,ih]
    have:cX (nX q a)=2 * a.length:=cX_len _
    have h:cO a=a.length:=rfl
    omega
  have h5:cXs (nXs (q+1) d.Exs)=2 * sumC cO d.Exs:=h4 _ _
  have h6:cPd d=cO d.Ex+cOS d.Exs:=rfl
  have h7:cO d.Ex=d.Ex.length:=rfl
  have h8:cOS d.Exs=d.Exs.length+sumC cO d.Exs:=rfl
  simp only [numL,sumC,List.length_cons]
  omega
end Go.Proofs.YtfplalbognalkaaGreat.Ab
/- Sizes of tables. -/
namespace Go.Proofs.YtfplalbognalkaaGreat.Ab
open Go
theorem sz_in' {ts:List Tb} (h:cTS ts<=1048576):ts.length<=1048576/\ ∀t∈ts,t.2.2.length<=1048576/\ ∀r∈t.2.2,r.length<=1048576:=by
 have h0:=sumC_nonneg cT_nonneg ts
 refine ⟨by unfold cTS at h;omega,fun t ht=>?_⟩
 have h1:=sz_row ht
 have h2:=sumC_nonneg cV_nonneg t.2.2
 unfold cT cSS at h1
 refine ⟨by omega,fun r hr=>?_⟩
 have h3:(r.length:Int)<=_:=sumC_mem cV_nonneg hr
 omega
end Go.Proofs.YtfplalbognalkaaGreat.Ab
/- The law of PlanOk. -/
namespace Go.Proofs.YtfplalbognalkaaGreat.Ab
open Go
theorem plan_in {ns:List Pd} (h:cPS ns<=1048576):ns.length<=1048576/\ ∀d∈ns,d.Ex.length<=1048576/\d.Exs.length<=1048576/\ ∀e∈d.Exs,e.length<=1048576:=by
 have h0:=sumC_nonneg cPd_nonneg ns
 refine ⟨by unfold cPS at h;omega,fun d hd=>?_⟩
 have h1:=sumC_mem cPd_nonneg hd
 have h2:cPd d=cO d.Ex+cOS d.Exs:=rfl
 have h3:=cO_nonneg d.Ex
 have h4:=cOS_nonneg d.Exs
 have h5:cO d.Ex=d.Ex.length:=rfl
 have h6:cOS d.Exs=d.Exs.length+sumC cO d.Exs:=rfl
 have h7:=sumC_nonneg cO_nonneg d.Exs
 unfold cPS at h
 refine ⟨by omega,by omega,fun e he=>?_⟩
 have h8:=sumC_mem cO_nonneg he
 have h9:cO e=e.length:=rfl
 omega
end Go.Proofs.YtfplalbognalkaaGreat.Ab
