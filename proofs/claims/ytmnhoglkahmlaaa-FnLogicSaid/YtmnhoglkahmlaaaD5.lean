/- The law FnLogic: walked. -/
import Derived.Test.YtmnhoglkahmlaaaD4
import Derived.Test.YtmnhoglkahmlaaaW5
import Derived.Test.YtmnhoglkahmlaaaT6
set_option linter.unusedSimpArgs false
set_option linter.unusedVariables false
set_option linter.unnecessarySimpa false
set_option linter.constructorNameAsVariable false
namespace Go.Proofs.Ytmnhoglkahmlaaa.Ab
open Go
set_option maxRecDepth 100000 in
theorem ok53 (b : Bool) (v : Int) (b' : Bool) (v' : Int) : Plain Try.prog 53 [dVal b v, dVal b' v'] (.bool (decide (b = b' ∧ v = v'))) := okOf mixed p53 fun A P hA hP => (by
  cbv
  repeat' first | with_reducible rfl | with_reducible refine And.intro ?_ ?_ | ((with_reducible intro hcc); first | (cases hcc; done) | skip) | ((with_reducible show goC _ _ _ _ _ _ _ _); cbv) | ((with_reducible show goOps _ _ _ _ _); cbv) | ((with_reducible show okWr _ _ = _); rfl) | ((with_reducible refine hA.fin_pl _ _ _ ?_); cbv) | ((with_reducible refine hA.len _ _ _ _ _ fun z hz hb => ?_); cbv) | ((with_reducible refine hA.slen _ _ _ _ _ fun z hz hb => ?_); cbv) | ((with_reducible refine hA.off _ _ _ _ fun b hb => ?_); cbv) | ((with_reducible refine hA.plus _ _ _ fun b hb => ?_); cbv) | ((with_reducible refine hA.rep _ _ _ fun ds m hds hm => ?_); cbv) | ((with_reducible refine hA.app _ _ _ _ _ ⟨?_, fun zs m hzs hm => ?_⟩); rotate_left; cbv) | ((with_reducible refine hA.app0 _ _ _ ⟨?_, fun m hm => ?_⟩); rotate_left; cbv) | ((with_reducible refine hA.slc _ _ _ _ _ ⟨?_, fun zs hzs => ?_⟩); rotate_left; cbv) | ((with_reducible refine hA.st _ _ _ _ _ ⟨?_, fun ds hds => ?_⟩); rotate_left; cbv) | ((with_reducible refine hA.alt _ _ (Or.inl ?_)); cbv) | ((with_reducible refine hA.appv _ _ _ _ _ _ ⟨?_, fun bb m ds hbb hm hds => ?_⟩); rotate_left; cbv) | ((with_reducible refine hA.vsl _ _ _ _ ⟨?_, fun m hm => ?_⟩); rotate_left; cbv) | ((with_reducible refine hA.vcut _ _ _ _ ⟨?_, fun cs hcs => ?_⟩); rotate_left; cbv) | ((with_reducible refine hA.appw _ _ _ _ _ _ _ ⟨?_, fun bb m ds hbb hm hds => ?_⟩); rotate_left; cbv) | ((with_reducible refine hA.six _ _ _ fun z6 c hz6 hc hc2 => ?_); cbv) | ((with_reducible refine hA.ssl _ _ _ _ ⟨?_, fun sl hsl => ?_⟩); rotate_left; cbv) | ((with_reducible refine hA.sapp _ _ _ ⟨?_, fun sl hsl => ?_⟩); rotate_left; cbv) | ((with_reducible refine hA.s2b _ _ fun es hes => ?_); cbv) | ((with_reducible refine hA.gb0 true _ ?_); cbv) | ((with_reducible refine hA.gb0 false _ ?_); cbv) | ((with_reducible refine hA.gb _ _ fun vb hvb => ?_); cbv) | ((with_reducible refine hA.mget _ _ _ _ ⟨fun mv hmv => ?_, fun hmv => ?_⟩) <;> cbv) | ((with_reducible refine hA.mset _ _ _ _ fun ml hml => ?_); cbv) | (simp only [hA.natLit, hA.natOf, hA.natCast]; cbv)
  all_goals try simp only [hA.add, hA.sub, hA.mul, hA.neg, hA.div, hA.mod, hA.mn, hA.mx, hA.eq, hA.lt, hA.le, hA.nat, hA.R, hA.lep, hA.ltp, hA.seq, inR, n_cast, Int.ofNat_eq_natCast, Option.getD_some, Option.getD_none] at *
  all_goals (cases b <;> cases b' <;> by_cases h : v = v' <;> simp_all))
theorem ok53t {x y : V} (h : x = y) : Plain Try.prog 53 [dVal x.1 x.2, dVal y.1 y.2] (.bool true) := by
  have := ok53 x.1 x.2 y.1 y.2
  rw [decide_eq_true (by rw [h]; exact ⟨rfl, rfl⟩)] at this
  exact this
theorem plain_v {fn : FuncId} {args : List D} {v : V} {k : Int} (h : Plain Try.prog fn args (ofT k)) (e : v = triV k) : Plain Try.prog fn args (dVal v.1 v.2) := by rw [e]; exact h
/-- The opposite of a value. -/
def nv (a : V) : V := (a.1, if a.1 = false ∧ a.2 = 0 then 1 else 0)
theorem nv_tr (a : V) : nv a = triV (2 - tr a.1 a.2) := by
  obtain ⟨b, v⟩ := a
  cases b with
  | true => simp [nv, tr, triV]
  | false => by_cases h : v = 0 <;> simp [nv, tr, triV, h]
theorem tr_tri {k : Int} (h : k = 0 ∨ k = 1 ∨ k = 2) : tr (triV k).1 (triV k).2 = k := by rcases h with rfl | rfl | rfl <;> rfl
theorem tr_in (b : Bool) (v : Int) : tr b v = 0 ∨ tr b v = 1 ∨ tr b v = 2 := by unfold tr; cases b <;> simp; by_cases h : v = 0 <;> simp [h]
theorem cm_in (op : Int) (b : Bool) (v : Int) (b' : Bool) (v' : Int) : cm op b v b' v' = 0 ∨ cm op b v b' v' = 1 ∨ cm op b v b' v' = 2 := by unfold cm; grind
theorem min_in {a b : Int} (ha : a = 0 ∨ a = 1 ∨ a = 2) (hb : b = 0 ∨ b = 1 ∨ b = 2) : min a b = 0 ∨ min a b = 1 ∨ min a b = 2 := by omega
theorem logic1 (a1 : Bool) (a2 : Int) (b1 : Bool) (b2 : Int) {c na nb : V} (hc : c = triV (min (tr a1 a2) (tr b1 b2))) (hna : na = nv (a1, a2)) (hnb : nb = nv (b1, b2)) : nv c = triV (max (tr na.1 na.2) (tr nb.1 nb.2)) := by
  have ha := tr_in a1 a2
  have hb := tr_in b1 b2
  have hm := min_in ha hb
  rw [nv_tr, hc, tr_tri hm, hna, hnb, nv_tr, nv_tr, tr_tri (show 2 - tr a1 a2 = 0 ∨ 2 - tr a1 a2 = 1 ∨ 2 - tr a1 a2 = 2 by omega), tr_tri (show 2 - tr b1 b2 = 0 ∨ 2 - tr b1 b2 = 1 ∨ 2 - tr b1 b2 = 2 by omega)]
  congr 1
  omega
theorem logic2 (op op' : Int) (a1 : Bool) (a2 : Int) (b1 : Bool) (b2 : Int) (h : (op = 3 ∧ op' = 6) ∨ (op = 1 ∧ op' = 2)) {c : V} (hc : c = triV (cm op a1 a2 b1 b2)) : nv c = triV (cm op' a1 a2 b1 b2) := by
  rw [nv_tr, hc, tr_tri (cm_in _ _ _ _ _)]
  congr 1
  unfold cm hol
  rcases h with ⟨rfl, rfl⟩ | ⟨rfl, rfl⟩ <;> grind
theorem logic3 (a1 : Bool) (a2 : Int) (b1 : Bool) (b2 : Int) {c d : V} (hc : c = triV (cm 3 a1 a2 b1 b2)) (hd : d = triV (cm 1 a1 a2 b1 b2)) : triV (max (tr c.1 c.2) (tr d.1 d.2)) = triV (cm 4 a1 a2 b1 b2) := by
  rw [hc, hd, tr_tri (cm_in _ _ _ _ _), tr_tri (cm_in _ _ _ _ _)]
  congr 1
  unfold cm hol
  grind
theorem stk_pre {l : List (Int × Int)} {row : List V} {o : Int × Int} : ∀ n, n ≤ l.length → stk (l ++ [o]) row n = stk l row n
  | 0, _ => rfl
  | n + 1, h => by
    rw [stk, stk, stk_pre n (by omega)]
    congr 1
    simp [List.getD, List.getElem?_append_left (show n < l.length by omega)]
theorem logic4 {l : List (Int × Int)} {row : List V} {v : V} (h : EvR l row v true) (hl : l.length < 5000) : EvR (l ++ [(7, 0)]) row (nv v) true := by
  obtain ⟨h1, _, h3⟩ := h
  obtain ⟨_, h5⟩ := h3 rfl
  have hok : exOk (l ++ [(7, 0)]) row.length = true := by
    rw [exOk_fw] at h1 ⊢
    simp only [decide_eq_true_eq] at h1 ⊢
    refine ⟨by simp; omega, h1.2.1, ?_⟩
    rw [fw_snoc _ _ _ 0 (Int.le_refl _), h1.2.2]
    rfl
  obtain ⟨u, g1, g2⟩ := ex_seg hok
  have e : stk (l ++ [(7, 0)]) row (l ++ [(7, 0)]).length = [nv v] := by
    rw [show (l ++ [((7 : Int), (0 : Int))]).length = l.length + 1 by simp, stk, stk_pre l.length (Nat.le_refl _), h5]
    simp [List.getD]
    rfl
  have : u = nv v := by rw [e] at g2; simpa using g2.symm
  subst this
  exact ⟨hok, (fun h => by cases h), fun _ => ⟨g1, g2⟩⟩
set_option maxRecDepth 100000 in
set_option maxHeartbeats 4000000 in
theorem ok14 (es fs : List (List E)) (hb1 : ∃ l : List UInt8, es = bytesE l) (hb2 : ∃ l : List UInt8, fs = bytesE l) : Plain Try.prog 14 [.e (.sl es), .e (.sl fs)] (.bool true) := okOf mixed p14 fun A P hA hP => (by
  obtain ⟨⟨⟨a1, a2⟩, ⟨b1, b2⟩⟩, _, h52⟩ := ok52 hb1
  obtain ⟨⟨l, row⟩, ⟨hl, hrow⟩, h54⟩ := ok54 hb2
  obtain ⟨x, hx⟩ : ∃ x, x = l.map orow := ⟨_, rfl⟩
  obtain ⟨y, hy⟩ : ∃ y, y = row.map vr := ⟨_, rfl⟩
  simp only at h52 h54 hl hrow
  rw [← hx, ← hy] at h54
  have hxl : x.length = l.length := by rw [hx]; simp
  have hyl : y.length = row.length := by rw [hy]; simp
  obtain ⟨⟨c1, c2⟩, hc⟩ : ∃ c : V, c = triV (min (tr a1 a2) (tr b1 b2)) := ⟨_, rfl⟩
  obtain ⟨⟨na1, na2⟩, hna⟩ : ∃ c : V, c = nv (a1, a2) := ⟨_, rfl⟩
  obtain ⟨⟨nb1, nb2⟩, hnb⟩ : ∃ c : V, c = nv (b1, b2) := ⟨_, rfl⟩
  obtain ⟨⟨nc1, nc2⟩, hnc⟩ : ∃ c : V, c = nv (c1, c2) := ⟨_, rfl⟩
  obtain ⟨⟨e1, e2⟩, he⟩ : ∃ c : V, c = triV (cm 3 a1 a2 b1 b2) := ⟨_, rfl⟩
  obtain ⟨⟨f1, f2⟩, hf⟩ : ∃ c : V, c = triV (cm 1 a1 a2 b1 b2) := ⟨_, rfl⟩
  obtain ⟨⟨g1, g2⟩, hg⟩ : ∃ c : V, c = triV (cm 6 a1 a2 b1 b2) := ⟨_, rfl⟩
  obtain ⟨⟨i1, i2⟩, hi⟩ : ∃ c : V, c = triV (cm 2 a1 a2 b1 b2) := ⟨_, rfl⟩
  obtain ⟨⟨j1, j2⟩, hj⟩ : ∃ c : V, c = triV (cm 4 a1 a2 b1 b2) := ⟨_, rfl⟩
  have q1 : ((nc1, nc2) : V) = triV (max (tr na1 na2) (tr nb1 nb2)) := by have := logic1 a1 a2 b1 b2 hc hna hnb; rw [← hnc] at this; exact this
  have q2 : ((g1, g2) : V) = nv (e1, e2) := by rw [hg, logic2 3 6 a1 a2 b1 b2 (.inl ⟨rfl, rfl⟩) he]
  have q3 : ((i1, i2) : V) = nv (f1, f2) := by rw [hi, logic2 1 2 a1 a2 b1 b2 (.inr ⟨rfl, rfl⟩) hf]
  have q4 : ((j1, j2) : V) = triV (max (tr e1 e2) (tr f1 f2)) := by rw [hj]; exact (logic3 a1 a2 b1 b2 he hf).symm
  have h22 : Plain Try.prog 22 [dVal a1 a2, dVal b1 b2] (dVal c1 c2) := plain_v (ok22 a1 a2 b1 b2) hc
  have h21 : Plain Try.prog 21 [dVal a1 a2, dVal b1 b2] (dVal c1 c2) := plain_v (ok21 a1 a2 b1 b2) hc
  have n17 : ∀ {u w : V}, w = nv u → Plain Try.prog 17 [dVal u.1 u.2] (dVal w.1 w.2) := fun {u w} e => by rw [e]; exact ok17 u.1 u.2
  have n15 : ∀ {u w : V}, w = nv u → Plain Try.prog 15 [dVal u.1 u.2] (dVal w.1 w.2) := fun {u w} e => by rw [e]; exact ok15 u.1 u.2
  have h17c : Plain Try.prog 17 [dVal c1 c2] (dVal nc1 nc2) := n17 hnc
  have h15c : Plain Try.prog 15 [dVal c1 c2] (dVal nc1 nc2) := n15 hnc
  have h17a : Plain Try.prog 17 [dVal a1 a2] (dVal na1 na2) := n17 hna
  have h17b : Plain Try.prog 17 [dVal b1 b2] (dVal nb1 nb2) := n17 hnb
  have h24 : Plain Try.prog 24 [dVal na1 na2, dVal nb1 nb2] (dVal nc1 nc2) := plain_v (ok24 na1 na2 nb1 nb2) q1
  have h53 : Plain Try.prog 53 [dVal nc1 nc2, dVal nc1 nc2] (.bool true) := ok53t (x := (nc1, nc2)) rfl
  have h203 : Plain Try.prog 20 [.int 3, dVal a1 a2, dVal b1 b2] (dVal e1 e2) := plain_v (ok20 3 a1 a2 b1 b2) he
  have h201 : Plain Try.prog 20 [.int 1, dVal a1 a2, dVal b1 b2] (dVal f1 f2) := plain_v (ok20 1 a1 a2 b1 b2) hf
  have h206 : Plain Try.prog 20 [.int 6, dVal a1 a2, dVal b1 b2] (dVal g1 g2) := plain_v (ok20 6 a1 a2 b1 b2) hg
  have h202 : Plain Try.prog 20 [.int 2, dVal a1 a2, dVal b1 b2] (dVal i1 i2) := plain_v (ok20 2 a1 a2 b1 b2) hi
  have h17e : Plain Try.prog 17 [dVal e1 e2] (dVal g1 g2) := n17 q2
  have h17f : Plain Try.prog 17 [dVal f1 f2] (dVal i1 i2) := n17 q3
  have h53g : Plain Try.prog 53 [dVal g1 g2, dVal g1 g2] (.bool true) := ok53t (x := (g1, g2)) rfl
  have h53i : Plain Try.prog 53 [dVal i1 i2, dVal i1 i2] (.bool true) := ok53t (x := (i1, i2)) rfl
  have h24e : Plain Try.prog 24 [dVal e1 e2, dVal f1 f2] (dVal j1 j2) := plain_v (ok24 e1 e2 f1 f2) q4
  have h19 : Plain Try.prog 19 [.int 4, dVal a1 a2, dVal b1 b2] (dVal j1 j2) := plain_v (ok19 4 a1 a2 b1 b2) hj
  have h53j : Plain Try.prog 53 [dVal j1 j2, dVal j1 j2] (.bool true) := ok53t (x := (j1, j2)) rfl
  obtain ⟨⟨v1, v2⟩, c, hv⟩ := evR_ex l row
  have h40 := ok40 hx hy (by omega) hv
  have h41 := ok41 hx hy (by omega) hv
  have h33 : ∀ w : Int, w = row.length → Plain Try.prog 33 [.e (.sl x), .int w] (.bool c) := fun w e => by rw [← hv.1, e]; exact ok33 l x hx (by omega) _
  obtain ⟨⟨u1, u2⟩, hu⟩ : ∃ u : V, u = nv (v1, v2) := ⟨_, rfl⟩
  have h41b : ∀ zs : List (List E), c = true → l.length < 5000 → zs = x ++ [[E.int 7, E.int 0]] → Plain Try.prog 41 [.e (.sl zs), .e (.sl y)] (.tup [dVal u1 u2, .bool true]) := fun zs e1 e2 e3 => by
    have hv' : EvR l row (v1, v2) true := e1 ▸ hv
    have := logic4 hv' e2
    rw [← hu] at this
    exact ok41 (show zs = (l ++ [(7, 0)]).map orow by rw [e3, hx]; simp) hy (by rw [e3]; simp; omega) this
  have h17v : Plain Try.prog 17 [dVal v1 v2] (dVal u1 u2) := n17 hu
  have h15v : Plain Try.prog 15 [dVal v1 v2] (dVal u1 u2) := n15 hu
  have h53u : Plain Try.prog 53 [dVal u1 u2, dVal u1 u2] (.bool true) := ok53t (x := (u1, u2)) rfl
  clear hc hna hnb hnc he hf hg hi hj q1 q2 q3 q4 n17 n15 hv hu
  have hin : x.length ≤ 6002 := by omega
  have hk2 : allLen 2 x := by rw [hx]; exact allLen_iff.2 orow_len
  cases c with
  | false =>
    cbv
    repeat' first | with_reducible rfl | with_reducible refine And.intro ?_ ?_ | ((with_reducible intro hcc); first | (cases hcc; done) | skip) | ((with_reducible show goC _ _ _ _ _ _ _ _); cbv) | ((with_reducible show goOps _ _ _ _ _); cbv) | ((with_reducible show okWr _ _ = _); rfl) | ((with_reducible refine callK_eq hA hP ?_ ?_ ?_ (Wks.refl _) (fun _ _ => h52)); exact rfl; exact rfl; cbv) | ((with_reducible refine callK_eq hA hP ?_ ?_ ?_ (Wks.refl _) (fun _ _ => h22)); exact rfl; exact rfl; cbv) | ((with_reducible refine callK_eq hA hP ?_ ?_ ?_ (Wks.refl _) (fun _ _ => h21)); exact rfl; exact rfl; cbv) | ((with_reducible refine callK_eq hA hP ?_ ?_ ?_ (Wks.refl _) (fun _ _ => h17c)); exact rfl; exact rfl; cbv) | ((with_reducible refine callK_eq hA hP ?_ ?_ ?_ (Wks.refl _) (fun _ _ => h15c)); exact rfl; exact rfl; cbv) | ((with_reducible refine callK_eq hA hP ?_ ?_ ?_ (Wks.refl _) (fun _ _ => h17a)); exact rfl; exact rfl; cbv) | ((with_reducible refine callK_eq hA hP ?_ ?_ ?_ (Wks.refl _) (fun _ _ => h17b)); exact rfl; exact rfl; cbv) | ((with_reducible refine callK_eq hA hP ?_ ?_ ?_ (Wks.refl _) (fun _ _ => h24)); exact rfl; exact rfl; cbv) | ((with_reducible refine callK_eq hA hP ?_ ?_ ?_ (Wks.refl _) (fun _ _ => h53)); exact rfl; exact rfl; cbv) | ((with_reducible refine callK_eq hA hP ?_ ?_ ?_ (Wks.refl _) (fun _ _ => h203)); exact rfl; exact rfl; cbv) | ((with_reducible refine callK_eq hA hP ?_ ?_ ?_ (Wks.refl _) (fun _ _ => h201)); exact rfl; exact rfl; cbv) | ((with_reducible refine callK_eq hA hP ?_ ?_ ?_ (Wks.refl _) (fun _ _ => h206)); exact rfl; exact rfl; cbv) | ((with_reducible refine callK_eq hA hP ?_ ?_ ?_ (Wks.refl _) (fun _ _ => h202)); exact rfl; exact rfl; cbv) | ((with_reducible refine callK_eq hA hP ?_ ?_ ?_ (Wks.refl _) (fun _ _ => h17e)); exact rfl; exact rfl; cbv) | ((with_reducible refine callK_eq hA hP ?_ ?_ ?_ (Wks.refl _) (fun _ _ => h17f)); exact rfl; exact rfl; cbv) | ((with_reducible refine callK_eq hA hP ?_ ?_ ?_ (Wks.refl _) (fun _ _ => h53g)); exact rfl; exact rfl; cbv) | ((with_reducible refine callK_eq hA hP ?_ ?_ ?_ (Wks.refl _) (fun _ _ => h53i)); exact rfl; exact rfl; cbv) | ((with_reducible refine callK_eq hA hP ?_ ?_ ?_ (Wks.refl _) (fun _ _ => h24e)); exact rfl; exact rfl; cbv) | ((with_reducible refine callK_eq hA hP ?_ ?_ ?_ (Wks.refl _) (fun _ _ => h19)); exact rfl; exact rfl; cbv) | ((with_reducible refine callK_eq hA hP ?_ ?_ ?_ (Wks.refl _) (fun _ _ => h53j)); exact rfl; exact rfl; cbv) | ((with_reducible refine callK_eq hA hP ?_ ?_ ?_ (Wks.refl _) (fun _ _ => h54)); exact rfl; exact rfl; cbv) | ((with_reducible refine callK_eq hA hP ?_ ?_ ?_ (Wks.refl _) (fun _ _ => h40)); exact rfl; exact rfl; cbv) | ((with_reducible refine callK_eq hA hP ?_ ?_ ?_ (Wks.refl _) (fun _ _ => h41)); exact rfl; exact rfl; cbv) | ((with_reducible refine callK_eq hA hP ?_ ?_ ?_ (Wks.refl _) (fun _ _ => h33 _ ?_)); exact rfl; exact rfl; cbv) | ((with_reducible refine callK_eq hA hP ?_ ?_ ?_ (Wks.refl _) (fun _ _ => h17v)); exact rfl; exact rfl; cbv) | ((with_reducible refine callK_eq hA hP ?_ ?_ ?_ (Wks.refl _) (fun _ _ => h15v)); exact rfl; exact rfl; cbv) | ((with_reducible refine callK_eq hA hP ?_ ?_ ?_ (Wks.refl _) (fun _ _ => h53u)); exact rfl; exact rfl; cbv) | ((with_reducible refine hA.fin_pl _ _ _ ?_); cbv) | ((with_reducible refine hA.len _ _ _ _ _ fun z hz hb => ?_); cbv) | ((with_reducible refine hA.slen _ _ _ _ _ fun z hz hb => ?_); cbv) | ((with_reducible refine hA.off _ _ _ _ fun b hb => ?_); cbv) | ((with_reducible refine hA.plus _ _ _ fun b hb => ?_); cbv) | ((with_reducible refine hA.rep _ _ _ fun ds m hds hm => ?_); cbv) | ((with_reducible refine hA.app _ _ _ _ _ ⟨?_, fun zs m hzs hm => ?_⟩); rotate_left; cbv) | ((with_reducible refine hA.app0 _ _ _ ⟨?_, fun m hm => ?_⟩); rotate_left; cbv) | ((with_reducible refine hA.slc _ _ _ _ _ ⟨?_, fun zs hzs => ?_⟩); rotate_left; cbv) | ((with_reducible refine hA.st _ _ _ _ _ ⟨?_, fun ds hds => ?_⟩); rotate_left; cbv) | ((with_reducible refine hA.alt _ _ (Or.inl ?_)); cbv) | ((with_reducible refine hA.appv _ _ _ _ _ _ ⟨?_, fun bb m ds hbb hm hds => ?_⟩); rotate_left; cbv) | ((with_reducible refine hA.vsl _ _ _ _ ⟨?_, fun m hm => ?_⟩); rotate_left; cbv) | ((with_reducible refine hA.vcut _ _ _ _ ⟨?_, fun cs hcs => ?_⟩); rotate_left; cbv) | ((with_reducible refine hA.appw _ _ _ _ _ _ _ ⟨?_, fun bb m ds hbb hm hds => ?_⟩); rotate_left; cbv) | ((with_reducible refine hA.six _ _ _ fun z6 c hz6 hc hc2 => ?_); cbv) | ((with_reducible refine hA.ssl _ _ _ _ ⟨?_, fun sl hsl => ?_⟩); rotate_left; cbv) | ((with_reducible refine hA.sapp _ _ _ ⟨?_, fun sl hsl => ?_⟩); rotate_left; cbv) | ((with_reducible refine hA.s2b _ _ fun es hes => ?_); cbv) | ((with_reducible refine hA.gb0 true _ ?_); cbv) | ((with_reducible refine hA.gb0 false _ ?_); cbv) | ((with_reducible refine hA.gb _ _ fun vb hvb => ?_); cbv) | ((with_reducible refine hA.mget _ _ _ _ ⟨fun mv hmv => ?_, fun hmv => ?_⟩) <;> cbv) | ((with_reducible refine hA.mset _ _ _ _ fun ml hml => ?_); cbv) | (simp only [hA.natLit, hA.natOf, hA.natCast]; cbv)
    all_goals try simp only [hA.add, hA.sub, hA.mul, hA.neg, hA.div, hA.mod, hA.mn, hA.mx, hA.eq, hA.lt, hA.le, hA.nat, hA.R, hA.lep, hA.ltp, hA.seq, inR, n_cast, Int.ofNat_eq_natCast, Option.getD_some, Option.getD_none] at *
    all_goals first
      | omega
      | (rw [hz, hyl])
      | (clear h41b; grind)
      | (trace_state; fail)
  | true =>
    cbv
    repeat' first | with_reducible rfl | with_reducible refine And.intro ?_ ?_ | ((with_reducible intro hcc); first | (cases hcc; done) | skip) | ((with_reducible show goC _ _ _ _ _ _ _ _); cbv) | ((with_reducible show goOps _ _ _ _ _); cbv) | ((with_reducible show okWr _ _ = _); rfl) | ((with_reducible refine callK_eq hA hP ?_ ?_ ?_ (Wks.refl _) (fun _ _ => h52)); exact rfl; exact rfl; cbv) | ((with_reducible refine callK_eq hA hP ?_ ?_ ?_ (Wks.refl _) (fun _ _ => h22)); exact rfl; exact rfl; cbv) | ((with_reducible refine callK_eq hA hP ?_ ?_ ?_ (Wks.refl _) (fun _ _ => h21)); exact rfl; exact rfl; cbv) | ((with_reducible refine callK_eq hA hP ?_ ?_ ?_ (Wks.refl _) (fun _ _ => h17c)); exact rfl; exact rfl; cbv) | ((with_reducible refine callK_eq hA hP ?_ ?_ ?_ (Wks.refl _) (fun _ _ => h15c)); exact rfl; exact rfl; cbv) | ((with_reducible refine callK_eq hA hP ?_ ?_ ?_ (Wks.refl _) (fun _ _ => h17a)); exact rfl; exact rfl; cbv) | ((with_reducible refine callK_eq hA hP ?_ ?_ ?_ (Wks.refl _) (fun _ _ => h17b)); exact rfl; exact rfl; cbv) | ((with_reducible refine callK_eq hA hP ?_ ?_ ?_ (Wks.refl _) (fun _ _ => h24)); exact rfl; exact rfl; cbv) | ((with_reducible refine callK_eq hA hP ?_ ?_ ?_ (Wks.refl _) (fun _ _ => h53)); exact rfl; exact rfl; cbv) | ((with_reducible refine callK_eq hA hP ?_ ?_ ?_ (Wks.refl _) (fun _ _ => h203)); exact rfl; exact rfl; cbv) | ((with_reducible refine callK_eq hA hP ?_ ?_ ?_ (Wks.refl _) (fun _ _ => h201)); exact rfl; exact rfl; cbv) | ((with_reducible refine callK_eq hA hP ?_ ?_ ?_ (Wks.refl _) (fun _ _ => h206)); exact rfl; exact rfl; cbv) | ((with_reducible refine callK_eq hA hP ?_ ?_ ?_ (Wks.refl _) (fun _ _ => h202)); exact rfl; exact rfl; cbv) | ((with_reducible refine callK_eq hA hP ?_ ?_ ?_ (Wks.refl _) (fun _ _ => h17e)); exact rfl; exact rfl; cbv) | ((with_reducible refine callK_eq hA hP ?_ ?_ ?_ (Wks.refl _) (fun _ _ => h17f)); exact rfl; exact rfl; cbv) | ((with_reducible refine callK_eq hA hP ?_ ?_ ?_ (Wks.refl _) (fun _ _ => h53g)); exact rfl; exact rfl; cbv) | ((with_reducible refine callK_eq hA hP ?_ ?_ ?_ (Wks.refl _) (fun _ _ => h53i)); exact rfl; exact rfl; cbv) | ((with_reducible refine callK_eq hA hP ?_ ?_ ?_ (Wks.refl _) (fun _ _ => h24e)); exact rfl; exact rfl; cbv) | ((with_reducible refine callK_eq hA hP ?_ ?_ ?_ (Wks.refl _) (fun _ _ => h19)); exact rfl; exact rfl; cbv) | ((with_reducible refine callK_eq hA hP ?_ ?_ ?_ (Wks.refl _) (fun _ _ => h53j)); exact rfl; exact rfl; cbv) | ((with_reducible refine callK_eq hA hP ?_ ?_ ?_ (Wks.refl _) (fun _ _ => h54)); exact rfl; exact rfl; cbv) | ((with_reducible refine callK_eq hA hP ?_ ?_ ?_ (Wks.refl _) (fun _ _ => h40)); exact rfl; exact rfl; cbv) | ((with_reducible refine callK_eq hA hP ?_ ?_ ?_ (Wks.refl _) (fun _ _ => h41)); exact rfl; exact rfl; cbv) | ((with_reducible refine callK_eq hA hP ?_ ?_ ?_ (Wks.refl _) (fun _ _ => h33 _ ?_)); exact rfl; exact rfl; cbv) | ((with_reducible refine callK_eq hA hP ?_ ?_ ?_ (Wks.refl _) (fun _ _ => h17v)); exact rfl; exact rfl; cbv) | ((with_reducible refine callK_eq hA hP ?_ ?_ ?_ (Wks.refl _) (fun _ _ => h15v)); exact rfl; exact rfl; cbv) | ((with_reducible refine callK_eq hA hP ?_ ?_ ?_ (Wks.refl _) (fun _ _ => h53u)); exact rfl; exact rfl; cbv) | ((with_reducible show A.call _ _ 9 _ _ 41 _ _ _); (have q0 : vb = false := (by assumption)); have q := hvb.symm.trans q0; rw [hA.le, decide_eq_false_iff_not] at q; (have h5 : l.length < 5000 := (by rw [hz, hxl] at q; clear hz; exact Int.ofNat_lt.1 (Int.not_le.1 q))); refine callK_eq hA hP (args := [.e (.sl zs), .e (.sl y)]) ?_ ?_ ?_ ⟨.inr rfl, .inl rfl, trivial⟩ (fun _ _ => h41b zs rfl h5 hzs); exact rfl; exact rfl; cbv) | ((with_reducible refine hA.fin_pl _ _ _ ?_); cbv) | ((with_reducible refine hA.len _ _ _ _ _ fun z hz hb => ?_); cbv) | ((with_reducible refine hA.slen _ _ _ _ _ fun z hz hb => ?_); cbv) | ((with_reducible refine hA.off _ _ _ _ fun b hb => ?_); cbv) | ((with_reducible refine hA.plus _ _ _ fun b hb => ?_); cbv) | ((with_reducible refine hA.rep _ _ _ fun ds m hds hm => ?_); cbv) | ((with_reducible refine hA.app _ _ _ _ _ ⟨?_, fun zs m hzs hm => ?_⟩); rotate_left; cbv) | ((with_reducible refine hA.app0 _ _ _ ⟨?_, fun m hm => ?_⟩); rotate_left; cbv) | ((with_reducible refine hA.slc _ _ _ _ _ ⟨?_, fun zs hzs => ?_⟩); rotate_left; cbv) | ((with_reducible refine hA.st _ _ _ _ _ ⟨?_, fun ds hds => ?_⟩); rotate_left; cbv) | ((with_reducible refine hA.alt _ _ (Or.inl ?_)); cbv) | ((with_reducible refine hA.appv _ _ _ _ _ _ ⟨?_, fun bb m ds hbb hm hds => ?_⟩); rotate_left; cbv) | ((with_reducible refine hA.vsl _ _ _ _ ⟨?_, fun m hm => ?_⟩); rotate_left; cbv) | ((with_reducible refine hA.vcut _ _ _ _ ⟨?_, fun cs hcs => ?_⟩); rotate_left; cbv) | ((with_reducible refine hA.appw _ _ _ _ _ _ _ ⟨?_, fun bb m ds hbb hm hds => ?_⟩); rotate_left; cbv) | ((with_reducible refine hA.six _ _ _ fun z6 c hz6 hc hc2 => ?_); cbv) | ((with_reducible refine hA.ssl _ _ _ _ ⟨?_, fun sl hsl => ?_⟩); rotate_left; cbv) | ((with_reducible refine hA.sapp _ _ _ ⟨?_, fun sl hsl => ?_⟩); rotate_left; cbv) | ((with_reducible refine hA.s2b _ _ fun es hes => ?_); cbv) | ((with_reducible refine hA.gb0 true _ ?_); cbv) | ((with_reducible refine hA.gb0 false _ ?_); cbv) | ((with_reducible refine hA.gb _ _ fun vb hvb => ?_); cbv) | ((with_reducible refine hA.mget _ _ _ _ ⟨fun mv hmv => ?_, fun hmv => ?_⟩) <;> cbv) | ((with_reducible refine hA.mset _ _ _ _ fun ml hml => ?_); cbv) | (simp only [hA.natLit, hA.natOf, hA.natCast]; cbv)
    all_goals try simp only [hA.add, hA.sub, hA.mul, hA.neg, hA.div, hA.mod, hA.mn, hA.mx, hA.eq, hA.lt, hA.le, hA.nat, hA.R, hA.lep, hA.ltp, hA.seq, inR, n_cast, Int.ofNat_eq_natCast, Option.getD_some, Option.getD_none] at *
    all_goals first
      | omega
      | (rw [hz, hyl])
      | exact ⟨rfl, trivial⟩
      | exact hk2
      | (rw [hm]; done)
      | (simp only [List.length_cons, List.length_nil]; omega)
      | (clear h41b; grind)
      | (trace_state; fail))
end Go.Proofs.Ytmnhoglkahmlaaa.Ab
