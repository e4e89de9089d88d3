/- A node's fields, by the program. -/
import Derived.Test.YtfplalbognalkaaMFnExactAstOk4
import Derived.Test.YtfplalbognalkaaRows
import Derived.Test.YtfplalbognalkaaChecked
set_option linter.unusedSimpArgs false
set_option linter.unusedVariables false
set_option linter.unnecessarySimpa false
set_option linter.constructorNameAsVariable false
namespace Go.Proofs.Ytfplalbognalkaa.Ab
open Go
set_option maxRecDepth 100000 in
set_option maxHeartbeats 16000000 in
theorem ok68e (K N M : Int) (S T : List UInt8) (Ks : List Int) (x1 : List (List E)) (ks : List Int) (x : List (List E)) (hx : x = ks.map ir) (hxn : x.length ≤ 1048576) (hK : ¬ K = 1 ∧ ¬ K = 2 ∧ ¬ K = 3 ∧ ¬ K = 4 ∧ ¬ K = 5 ∧ ¬ K = 6 ∧ ¬ K = 7 ∧ ¬ K = 8 ∧ ¬ K = 9 ∧ ¬ K = 10 ∧ ¬ K = 11 ∧ ¬ K = 12 ∧ ¬ K = 13 ∧ ¬ K = 14 ∧ ¬ K = 15) :
    Plain Try.prog 68 [.agg [.int K, .int N, .int M, .str S, .str T, .e (.sl x1)], .e (.sl x)] (.bool (fOk ⟨K, N, M, S, T, Ks⟩ ks)) := okOf mixed p68 fun A P hA hP => (by
  have hxl : x.length = ks.length := by rw [hx]; simp
  obtain ⟨r, hr⟩ : ∃ r, r = fOk ⟨K, N, M, S, T, Ks⟩ ks := ⟨_, rfl⟩
  rw [← hr]
  obtain ⟨zx, hzx⟩ : ∃ z : Int, z = x.length := ⟨_, rfl⟩
  have h272 := ok120 K N M S T x1 ks x hx hxn
  obtain ⟨bP, hbP⟩ : ∃ b, b = blockP N ks := ⟨_, rfl⟩
  rw [← hbP] at h272
  have h69S := ok119 S
  obtain ⟨nS, hnS⟩ : ∃ b, b = nameB S := ⟨_, rfl⟩
  rw [← hnS] at h69S
  have h69T := ok119 T
  obtain ⟨nT, hnT⟩ : ∃ b, b = nameB T := ⟨_, rfl⟩
  rw [← hnT] at h69T
  have h6 := ok121 fok274 (fun k => ok122 k) ks x hx 2
  obtain ⟨a6, ha6⟩ : ∃ b, b = (decide ((2 : Int) ≤ ks.length) && ks.all fun k => decide (k = 6)) := ⟨_, rfl⟩
  rw [← ha6] at h6
  have hS := ok121 fok275 (fun k => ok123 k) ks x hx 2
  obtain ⟨aS, haS⟩ : ∃ b, b = (decide ((2 : Int) ≤ ks.length) && ks.all isSc) := ⟨_, rfl⟩
  rw [← haS] at hS
  have hC := ok121 fok276 (fun k => ok124 k) ks x hx 2
  obtain ⟨aC, haC⟩ : ∃ b, b = (decide ((2 : Int) ≤ ks.length) && ks.all isCo) := ⟨_, rfl⟩
  rw [← haC] at hC
  obtain ⟨k0, hk0⟩ : ∃ k, k = ks.getD 0 0 := ⟨_, rfl⟩
  obtain ⟨k1, hk1⟩ : ∃ k, k = ks.getD 1 0 := ⟨_, rfl⟩
  have e0 : 1 ≤ x.length → x.getD (0 : Int).toNat [] = [E.int k0] := fun h => by
    obtain ⟨p, e, q⟩ := int_at hx (n := 0) ⟨Int.le_refl 0, by omega⟩
    have q' : ks[0]? = some p := q
    rw [e, hk0]; simp [List.getD, q']
  have e1 : 2 ≤ x.length → x.getD (1 : Int).toNat [] = [E.int k1] := fun h => by
    obtain ⟨p, e, q⟩ := int_at hx (n := 1) ⟨by omega, by omega⟩
    have q' : ks[1]? = some p := q
    rw [e, hk1]; simp [List.getD, q']
  have g0 := ok123 k0
  obtain ⟨s0, hs0⟩ : ∃ b, b = isSc k0 := ⟨_, rfl⟩
  rw [← hs0] at g0
  have g1 := ok69 k0
  obtain ⟨q0, hq0⟩ : ∃ b, b = isQu k0 := ⟨_, rfl⟩
  rw [← hq0] at g1
  have g2 := ok124 k0
  obtain ⟨c0, hc0⟩ : ∃ b, b = isCo k0 := ⟨_, rfl⟩
  rw [← hc0] at g2
  have g3 := ok69 k1
  obtain ⟨q1, hq1⟩ : ∃ b, b = isQu k1 := ⟨_, rfl⟩
  rw [← hq1] at g3
  obtain ⟨L0, hL0⟩ : ∃ b, b = decide (ks = []) := ⟨_, rfl⟩
  obtain ⟨L1, hL1⟩ : ∃ b, b = decide (ks.length = 1) := ⟨_, rfl⟩
  obtain ⟨L2, hL2⟩ : ∃ b, b = decide (ks.length = 2) := ⟨_, rfl⟩
  have m0 : A.eq zx 0 = L0 := by rw [hA.eq, hL0, fld_len0 hxl, hzx]
  have m1 : A.eq zx 1 = L1 := by rw [hA.eq, hL1, hzx, hxl]; congr 1; apply propext; omega
  have m2 : A.eq zx 2 = L2 := by rw [hA.eq, hL2, hzx, hxl]; congr 1; apply propext; omega
  have t8 : L2 = true → aS = ks.all isSc := fun h => by
    rw [hL2, decide_eq_true_eq] at h
    rw [haS, decide_eq_true (by omega), Bool.true_and]
  have t7 : (decide (2 ≤ ks.length) && ks.all fun k => decide (k = 6)) = a6 := by rw [ha6]; congr 1; congr 1; apply propext; omega
  have t9 : (decide (2 ≤ ks.length) && ks.all isCo) = aC := by rw [haC]; congr 1; congr 1; apply propext; omega
  have t8' : (L2 && ks.all isSc) = (L2 && aS) := by
    cases L2 with
    | true => rw [t8 rfl]
    | false => rfl
  have hr2 : r = fOk ⟨K, N, M, S, T, Ks⟩ ks := hr
  unfold fOk at hr2
  rw [show most = (999999999999999999 : Int) from rfl] at hr2
  simp only [noTx, ← hL0, ← hL1, ← hL2, ← hbP, ← hnS, ← hnT, t7, t8', t9, ← hk0, ← hk1, ← hs0, ← hq0, ← hc0, ← hq1] at hr2
  have u1 := hA.eq K 1
  have u2 := hA.eq K 2
  have u3 := hA.eq K 3
  have u4 := hA.eq K 4
  have u5 := hA.eq K 5
  have u6 := hA.eq K 6
  have u7 := hA.eq K 7
  have u8 := hA.eq K 8
  have u9 := hA.eq K 9
  have u10 := hA.eq K 10
  have u11 := hA.eq K 11
  have u12 := hA.eq K 12
  have u13 := hA.eq K 13
  have u14 := hA.eq K 14
  have u15 := hA.eq K 15
  have hl : (x.length = 1 ∧ L1 = true ∧ L2 = false) ∨ (x.length = 2 ∧ L1 = false ∧ L2 = true) ∨ (L1 = false ∧ L2 = false) := by
    rw [hL1, hL2, hxl]
    by_cases a : ks.length = 1
    · exact .inl ⟨a, by simp [a], by simp [a]⟩
    · by_cases b : ks.length = 2
      · exact .inr (.inl ⟨b, by simp [b], by simp [b]⟩)
      · exact .inr (.inr ⟨by simp [a], by simp [b]⟩)
  clear hr hbP hnS hnT ha6 haS haC hk0 hk1 hs0 hq0 hc0 hq1 hL0 hL1 hL2 t7 t8 t8' t9 hx hxl
  have w4 : decide (N = if M = 1 then 0 else 1) = (bif decide (M = 1) then decide (N = 0) else decide (N = 1)) := by by_cases h : M = 1 <;> simp [h]
  simp only [w4, Bool.decide_and, Bool.decide_or] at hr2
  obtain ⟨btS, hbtS⟩ : ∃ b, b = decide (S = []) := ⟨_, rfl⟩
  have vtS : A.seq S [] = btS := by rw [hA.seq, hbtS]
  obtain ⟨btT, hbtT⟩ : ∃ b, b = decide (T = []) := ⟨_, rfl⟩
  have vtT : A.seq T [] = btT := by rw [hA.seq, hbtT]
  obtain ⟨bM0, hbM0⟩ : ∃ b, b = decide (M = 0) := ⟨_, rfl⟩
  have vM0 : A.eq M 0 = bM0 := by rw [hA.eq, hbM0]
  obtain ⟨bM1, hbM1⟩ : ∃ b, b = decide (M = 1) := ⟨_, rfl⟩
  have vM1 : A.eq M 1 = bM1 := by rw [hA.eq, hbM1]
  obtain ⟨bN0, hbN0⟩ : ∃ b, b = decide (N = 0) := ⟨_, rfl⟩
  have vN0 : A.eq N 0 = bN0 := by rw [hA.eq, hbN0]
  obtain ⟨bN1, hbN1⟩ : ∃ b, b = decide (N = 1) := ⟨_, rfl⟩
  have vN1 : A.eq N 1 = bN1 := by rw [hA.eq, hbN1]
  obtain ⟨bN2, hbN2⟩ : ∃ b, b = decide (N = 2) := ⟨_, rfl⟩
  have vN2 : A.eq N 2 = bN2 := by rw [hA.eq, hbN2]
  obtain ⟨blo, hblo⟩ : ∃ b, b = decide (-999999999999999999 ≤ N) := ⟨_, rfl⟩
  have vlo : A.le (-999999999999999999) N = blo := by rw [hA.le, hblo]
  obtain ⟨bhi, hbhi⟩ : ∃ b, b = decide (N ≤ 999999999999999999) := ⟨_, rfl⟩
  have vhi : A.le N 999999999999999999 = bhi := by rw [hA.le, hbhi]
  obtain ⟨bn0, hbn0⟩ : ∃ b, b = decide (0 ≤ N) := ⟨_, rfl⟩
  have vn0 : A.le 0 N = bn0 := by rw [hA.le, hbn0]
  obtain ⟨bn1, hbn1⟩ : ∃ b, b = decide (1 ≤ N) := ⟨_, rfl⟩
  have vn1 : A.le 1 N = bn1 := by rw [hA.le, hbn1]
  obtain ⟨bl1, hbl1⟩ : ∃ b, b = decide (1 ≤ M) := ⟨_, rfl⟩
  have vl1 : A.le 1 M = bl1 := by rw [hA.le, hbl1]
  obtain ⟨bl4, hbl4⟩ : ∃ b, b = decide (M ≤ 4) := ⟨_, rfl⟩
  have vl4 : A.le M 4 = bl4 := by rw [hA.le, hbl4]
  obtain ⟨bl6, hbl6⟩ : ∃ b, b = decide (M ≤ 6) := ⟨_, rfl⟩
  have vl6 : A.le M 6 = bl6 := by rw [hA.le, hbl6]
  simp only [← hbtS, ← hbtT, ← hbM0, ← hbM1, ← hbN0, ← hbN1, ← hbN2, ← hblo, ← hbhi, ← hbn0, ← hbn1, ← hbl1, ← hbl4, ← hbl6] at hr2
  clear hbtS hbtT hbM0 hbM1 hbN0 hbN1 hbN2 hblo hbhi hbn0 hbn1 hbl1 hbl4 hbl6 w4
  obtain ⟨n1, n2, n3, n4, n5, n6, n7, n8, n9, n10, n11, n12, n13, n14, n15⟩ := hK
  have LE2 : True := trivial
  simp only [n1, n2, n3, n4, n5, n6, n7, n8, n9, n10, n11, n12, n13, n14, n15, decide_false, if_false, or_self] at u1 u2 u3 u4 u5 u6 u7 u8 u9 u10 u11 u12 u13 u14 u15 hr2
  cbv
  repeat' first | with_reducible rfl | (simp only [u1, u2, u3, u4, u5, u6, u7, u8, u9, u10, u11, u12, u13, u14, u15]; cbv) | (simp only [vtS, vtT, vM0, vM1, vN0, vN1, vN2, vlo, vhi, vn0, vn1, vl1, vl4, vl6]; cbv) | (simp only [ite_self]; cbv) | with_reducible refine And.intro ?_ ?_ | ((with_reducible intro hcc); first | (cases hcc; done) | skip) | ((with_reducible show goC _ _ _ _ _ _ _ _); cbv) | ((with_reducible show goOps _ _ _ _ _); cbv) | ((with_reducible show okWr _ _ = _); rfl) | ((with_reducible refine hA.fin_pl _ _ _ ?_); cbv) | ((with_reducible refine hA.len _ _ _ _ _ fun z hz hb => ?_); cbv) | ((with_reducible refine hA.off _ _ _ _ fun b hb => ?_); cbv) | ((with_reducible refine hA.plus _ _ _ fun b hb => ?_); cbv) | ((with_reducible refine hA.gb0 true _ ?_); cbv) | ((with_reducible refine hA.gb0 false _ ?_); cbv) | ((with_reducible refine hA.gb _ _ fun vb hvb => ?_); cbv) | (simp only [hA.natLit, hA.natOf, hA.natCast]; cbv)
  all_goals try simp only [hA.add, hA.sub, hA.mul, hA.neg, hA.div, hA.mod, hA.mn, hA.mx, hA.eq, hA.lt, hA.le, hA.nat, hA.R, hA.lep, hA.ltp, hA.seq, inR, n_cast, Int.ofNat_eq_natCast, Option.getD_some, Option.getD_none] at *
  all_goals first
    | (rw [hr2]; done)
    | omega
    | (clear h272 h69S h69T h6 hS hC g0 g1 g2 g3 hl; cases bM0 <;> first | rfl | trivial | (simp; done))
    | (clear h272 h69S h69T h6 hS hC g0 g1 g2 g3 hl; split <;> first | rfl | trivial | assumption | (simp_all; done))
    | (trace_state; fail))
theorem ok68 (K N M : Int) (S T : List UInt8) (Ks : List Int) (x1 : List (List E)) (ks : List Int) (x : List (List E)) (hx : x = ks.map ir) (hxn : x.length ≤ 1048576) :
    Plain Try.prog 68 [.agg [.int K, .int N, .int M, .str S, .str T, .e (.sl x1)], .e (.sl x)] (.bool (fOk ⟨K, N, M, S, T, Ks⟩ ks)) := by
  by_cases h1 : K = 1 ∨ K = 2 ∨ K = 3 ∨ K = 4 ∨ K = 5
  · exact ok68a K N M S T Ks x1 ks x hx hxn h1
  · by_cases h2 : K = 6 ∨ K = 7 ∨ K = 8 ∨ K = 14 ∨ K = 15
    · exact ok68b K N M S T Ks x1 ks x hx hxn h2
    · by_cases h3 : K = 9 ∨ K = 10 ∨ K = 11
      · exact ok68c K N M S T Ks x1 ks x hx hxn h3
      · by_cases h4 : K = 12 ∨ K = 13
        · exact ok68d K N M S T Ks x1 ks x hx hxn h4
        · exact ok68e K N M S T Ks x1 ks x hx hxn (by omega)
end Go.Proofs.Ytfplalbognalkaa.Ab
/- Trees are valid, by the program. -/
namespace Go.Proofs.Ytfplalbognalkaa.Ab
open Go
def dsI (c : List Int) : List D := c.map fun k => .int k
theorem dsI_len (c : List Int) : (dsI c).length = c.length := by simp [dsI]
theorem dsI_ren (t : RF) (c : List Int) : rens t (dsI c) = dsI c := by
  induction c with
  | nil => rfl
  | cons r c ih => show D.int r :: rens t (dsI c) = _; rw [ih]; rfl
theorem dsI_lt (m : Nat) (c : List Int) : lts m (dsI c) = true := by
  induction c with
  | nil => rfl
  | cons r c ih => show (true && lts m (dsI c)) = true; rw [ih]; rfl
theorem dsI_get {c : List Int} {ds : List D} {off : Nat} {d : D} {v : Int} (hd : ds = dsI c) (ho : c[off]? = some v) (h : d = ds.getD off default) : d = .int v := by
  subst hd
  rw [h]
  simp [dsI, List.getD, ho]
theorem dsI_set {c : List Int} {ds ds' : List D} {off : Nat} {r : Int} (hd : ds = dsI c) (ho : off < c.length) (h : ds' = ds.take off ++ [D.int r] ++ ds.drop (off + 1)) : ds' = dsI (c.set off r) := by
  subst hd
  rw [h, dsI, dsI, List.map_set, List.set_eq_take_append_cons_drop, if_pos (by simpa using ho)]
  simp
theorem dsI_flat (c : List Int) : dsI c = (c.map ir).flatten.map D.e := by
  induction c with
  | nil => rfl
  | cons a c ih => show D.int a :: dsI c = _; rw [ih]; rfl
theorem rep_dsI (n : Nat) : (List.replicate n [D.int 0]).flatten = dsI (List.replicate n 0) := by
  induction n with
  | zero => rfl
  | succ n ih => rw [List.replicate_succ, List.flatten_cons, ih]; rfl
/-- The things of the outer loop. -/
abbrev ob3 (es : List (List E)) (ds1 ds2 : List D) : List O := [.box [.e (.sl es)], .box ds1, .box ds2]
theorem ob3_side {env : RF → List (Nat × D)} {es : List (List E)} {s1 d1 : List Int} {ds1 ds2 : List D} (h1 : ds1 = dsI s1) (h2 : ds2 = dsI d1) (he : ∀ t, env t = renEnv t (env id)) (hl : ltEnv 3 (env id) = true) : SideW env (fun _ => ob3 es ds1 ds2) := by
  subst h1; subst h2
  exact ⟨he, hl, fun t => by simp only [List.map_cons, List.map_nil, O.ren, dsI_ren]; rfl, by
    intro o ho
    simp only [List.mem_cons, List.not_mem_nil, or_false] at ho
    rcases ho with rfl | rfl | rfl
    · rfl
    · simp only [O.lt, dsI_lt]
    · simp only [O.lt, dsI_lt]⟩
set_option maxRecDepth 100000 in
set_option maxHeartbeats 8000000 in
theorem ok25 (ns : List Nd) (es : List (List E)) (he : es = ns.map ndr) (hkl : ∀ d ∈ ns, d.Ks.length ≤ 1048576) (hlen : es.length ≤ 1048576) (r : Bool) (hr : r = true ↔ iOk ns) :
    Plain Try.prog 25 [.agg [.e (.sl es)]] (.bool r) := okOf mixed p25 fun A P hA hP => (by
  have hel : es.length = ns.length := by rw [he]; simp
  obtain ⟨ze, hze⟩ : ∃ z : Int, z = es.length := ⟨_, rfl⟩
  have ff : ¬ iOk ns → r = false := fun h => by cases r <;> first | rfl | exact absurd (hr.1 rfl) h
  have LE : True := trivial
  by_cases h1 : 1 ≤ es.length ∧ es.length ≤ 10000
  case neg =>
    have hr2 := ff fun h => h1 (by have := h.1; omega)
    by_cases h0 : es.length < 1
    · have e1 : A.lt ze 1 = true := by rw [hA.lt]; exact decide_eq_true (by omega)
      cbv
      repeat' first | with_reducible rfl | (simp only [e1]; cbv) | with_reducible refine And.intro ?_ ?_ | ((with_reducible intro hcc); first | (cases hcc; done) | skip) | ((with_reducible show goC _ _ _ _ _ _ _ _); cbv) | ((with_reducible show goOps _ _ _ _ _); cbv) | ((with_reducible show okWr _ _ = _); rfl) | ((with_reducible refine hA.len es _ _ _ _ fun z hz hb => ?_); (have e6 := hze.trans hz.symm); subst e6; cbv) | ((with_reducible refine hA.fin_pl _ _ _ ?_); cbv) | ((with_reducible refine hA.len _ _ _ _ _ fun z hz hb => ?_); cbv) | ((with_reducible refine hA.off _ _ _ _ fun b hb => ?_); cbv) | ((with_reducible refine hA.plus _ _ _ fun b hb => ?_); cbv) | ((with_reducible refine hA.rep _ _ _ fun ds m hds hm => ?_); cbv) | ((with_reducible refine hA.st _ _ _ _ _ ⟨?_, fun ds hds => ?_⟩); rotate_left; cbv) | ((with_reducible refine hA.alt _ _ (Or.inl ?_)); cbv) | ((with_reducible refine hA.sapp _ _ _ ⟨?_, fun sl hsl => ?_⟩); rotate_left; cbv) | ((with_reducible refine hA.gb0 true _ ?_); cbv) | ((with_reducible refine hA.gb0 false _ ?_); cbv) | ((with_reducible refine hA.gb _ _ fun vb hvb => ?_); cbv) | (simp only [hA.natLit, hA.natOf, hA.natCast]; cbv)
      all_goals try simp only [hA.add, hA.sub, hA.mul, hA.neg, hA.div, hA.mod, hA.mn, hA.mx, hA.eq, hA.lt, hA.le, hA.nat, hA.R, hA.lep, hA.ltp, hA.seq, inR, n_cast, Int.ofNat_eq_natCast, Option.getD_some, Option.getD_none] at *
      all_goals first
        | (rw [hr2]; done)
        | omega
        | (trace_state; fail)
    · have e1 : A.lt ze 1 = false := by rw [hA.lt]; exact decide_eq_false (by omega)
      have e2 : A.lt 10000 ze = true := by rw [hA.lt]; exact decide_eq_true (by omega)
      cbv
      repeat' first | with_reducible rfl | (simp only [e2]; cbv) | (simp only [e1]; cbv) | with_reducible refine And.intro ?_ ?_ | ((with_reducible intro hcc); first | (cases hcc; done) | skip) | ((with_reducible show goC _ _ _ _ _ _ _ _); cbv) | ((with_reducible show goOps _ _ _ _ _); cbv) | ((with_reducible show okWr _ _ = _); rfl) | ((with_reducible refine hA.len es _ _ _ _ fun z hz hb => ?_); (have e6 := hze.trans hz.symm); subst e6; cbv) | ((with_reducible refine hA.fin_pl _ _ _ ?_); cbv) | ((with_reducible refine hA.len _ _ _ _ _ fun z hz hb => ?_); cbv) | ((with_reducible refine hA.off _ _ _ _ fun b hb => ?_); cbv) | ((with_reducible refine hA.plus _ _ _ fun b hb => ?_); cbv) | ((with_reducible refine hA.rep _ _ _ fun ds m hds hm => ?_); cbv) | ((with_reducible refine hA.st _ _ _ _ _ ⟨?_, fun ds hds => ?_⟩); rotate_left; cbv) | ((with_reducible refine hA.alt _ _ (Or.inl ?_)); cbv) | ((with_reducible refine hA.sapp _ _ _ ⟨?_, fun sl hsl => ?_⟩); rotate_left; cbv) | ((with_reducible refine hA.gb0 true _ ?_); cbv) | ((with_reducible refine hA.gb0 false _ ?_); cbv) | ((with_reducible refine hA.gb _ _ fun vb hvb => ?_); cbv) | (simp only [hA.natLit, hA.natOf, hA.natCast]; cbv)
      all_goals try simp only [hA.add, hA.sub, hA.mul, hA.neg, hA.div, hA.mod, hA.mn, hA.mx, hA.eq, hA.lt, hA.le, hA.nat, hA.R, hA.lep, hA.ltp, hA.seq, inR, n_cast, Int.ofNat_eq_natCast, Option.getD_some, Option.getD_none] at *
      all_goals first
        | (rw [hr2]; done)
        | omega
        | (trace_state; fail)
  case pos =>
    have e1 : A.lt ze 1 = false := by rw [hA.lt]; exact decide_eq_false (by omega)
    have e2 : A.lt 10000 ze = false := by rw [hA.lt]; exact decide_eq_false (by omega)
    obtain ⟨zl, hzl⟩ : ∃ z, z = A.sub ze 1 := ⟨_, rfl⟩
    have hzl2 : zl = ze - 1 := by rw [hzl, hA.sub]
    have hil : (0 : Int) ≤ zl ∧ zl < es.length := by omega
    have hzn : zl.toNat = ns.length - 1 := by omega
    obtain ⟨K, N, M, S, T, Ks, x, g0, hx, g1⟩ := node_at he hil
    have hKA : kAt ns (ns.length - 1 : Nat) = K := by rw [kAt, show ((ns.length - 1 : Nat) : Int).toNat = zl.toNat by omega, g0]
    obtain ⟨qK, hqK⟩ : ∃ b, b = isQu K := ⟨_, rfl⟩
    have h234 := ok69 K
    rw [← hqK] at h234
    have f3 : ∀ i, i < ns.length → ¬ (0 ≤ st ns i ∧ dp ns i ≤ 200 ∧ rowOk ns i = true) → r = false := fun i hi h => ff fun q => h (q.2.1 i hi)
    have f4 : (∀ i, i < ns.length → 0 ≤ st ns i ∧ dp ns i ≤ 200 ∧ rowOk ns i = true) → r = (decide (st ns (ns.length - 1) = 0) && qK) := fun h => by
      rw [Bool.eq_iff_iff, hr, Bool.and_eq_true, decide_eq_true_eq, hqK]
      constructor
      · intro q; exact ⟨q.2.2.1, by rw [← hKA]; exact q.2.2.2⟩
      · intro q; exact ⟨by omega, h, q.1, by rw [hKA]; exact q.2⟩
    obtain ⟨n, hn⟩ : ∃ n : Nat, n = es.length := ⟨_, rfl⟩
    clear hr ff
    cbv
    repeat' first | with_reducible rfl | (simp only [e2]; cbv) | (simp only [e1]; cbv) | with_reducible refine And.intro ?_ ?_ | ((with_reducible intro hcc); first | (cases hcc; done) | skip) | ((with_reducible show goC _ _ _ _ _ _ _ _); cbv) | ((with_reducible show goOps _ _ _ _ _); cbv) | ((with_reducible show okWr _ _ = _); rfl) | ((with_reducible refine hA.len es _ _ _ _ fun z hz hb => ?_); (have e6 := hze.trans hz.symm); subst e6; cbv) | ((with_reducible refine hA.rep _ _ _ fun ds m hds hm => ?_); (have e7 : n = m := (by rw [hn, hm, hze]; rfl)); subst e7; cbv) | ((with_reducible refine hA.fin_pl _ _ _ ?_); cbv) | ((with_reducible refine hA.len _ _ _ _ _ fun z hz hb => ?_); cbv) | ((with_reducible refine hA.off _ _ _ _ fun b hb => ?_); cbv) | ((with_reducible refine hA.plus _ _ _ fun b hb => ?_); cbv) | ((with_reducible refine hA.rep _ _ _ fun ds m hds hm => ?_); cbv) | ((with_reducible refine hA.st _ _ _ _ _ ⟨?_, fun ds hds => ?_⟩); rotate_left; cbv) | ((with_reducible refine hA.alt _ _ (Or.inl ?_)); cbv) | ((with_reducible refine hA.sapp _ _ _ ⟨?_, fun sl hsl => ?_⟩); rotate_left; cbv) | ((with_reducible refine hA.gb0 true _ ?_); cbv) | ((with_reducible refine hA.gb0 false _ ?_); cbv) | ((with_reducible refine hA.gb _ _ fun vb hvb => ?_); cbv) | (simp only [hA.natLit, hA.natOf, hA.natCast]; cbv)
    all_goals try simp only [hA.add, hA.sub, hA.mul, hA.neg, hA.div, hA.mod, hA.mn, hA.mx, hA.eq, hA.lt, hA.le, hA.nat, hA.R, hA.lep, hA.ltp, hA.seq, inR, n_cast, Int.ofNat_eq_natCast, Option.getD_some, Option.getD_none] at *
    all_goals try omega
    rename_i ds1 hds1 _ ds2 hds2 _
    refine hA.loopI (fun mm s => ∃ (i : Int) (s1 d1 : List Int) (ds1 ds2 : List D), 0 ≤ i ∧ mm + i = es.length ∧ s1.length = n ∧ d1.length = n ∧ (∀ j : Nat, (j : Int) < i → (0 ≤ st ns j ∧ dp ns j ≤ 200 ∧ rowOk ns j = true) ∧ s1[j]? = some (st ns j) ∧ d1[j]? = some (dp ns j)) ∧ (∀ j : Nat, i ≤ j → j < n → d1[j]? = some 0) ∧ ds1 = dsI s1 ∧ ds2 = dsI d1 ∧
        s = ⟨[(33, .int i), (32, .int ze), (31, .e (.sl es)), (1, .ref 0 0), (3, .bs 1 0 n 1), (4, .bs 2 0 n 1), (2, .bool false)], ob3 es ds1 ds2⟩) es.length _
      (Weak.keep (env' := [(33, .int 0), (32, .int ze), (31, .e (.sl es)), (1, .ref 0 0), (3, .bs 1 0 n 1), (4, .bs 2 0 n 1), (2, .bool false)]) ⟨rfl, rfl, rfl, rfl, rfl, rfl, rfl, trivial⟩)
      ⟨0, List.replicate n 0, List.replicate n 0, _, _, by omega, by omega, by simp, by simp, (fun j h => by omega), (fun j h1 h2 => by simp [h2]), ?_, ?_, rfl⟩ ?_
    · rw [← rep_dsI n, show n = ze.toNat by omega]; assumption
    · rw [← rep_dsI n, show n = ze.toNat by omega]; assumption
    have hzl := hzl.trans (hA.sub ze 1).symm
    rintro m s K' ⟨i, s1, d1, ds1, ds2, i0, i1, i2, i3, i4, i5, hd1, hd2, rfl⟩ hK
    have hl1 : ds1.length = n := by rw [hd1, dsI_len, i2]
    have hl2 : ds2.length = n := by rw [hd2, dsI_len, i3]
    by_cases hi : (0 : Int) ≤ i ∧ i < es.length
    case neg =>
      have e8 : A.lt i ze = false := by rw [hA.lt]; exact decide_eq_false (by omega)
      have hr2 := f4 fun j hj => (i4 j (by omega)).1
      obtain ⟨s0, hs0⟩ : ∃ s, s = st ns (ns.length - 1) := ⟨_, rfl⟩
      rw [← hs0] at hr2
      have lds : ∀ {b : Nat} {c : D}, b = 0 + zl.toNat * 1 → c = ds1.getD b default → c = .int s0 := fun {b c} q1 q2 =>
        dsI_get hd1 (by rw [hs0, ← hzn, show b = zl.toNat by omega]; exact (i4 zl.toNat (by omega)).2.1) q2
      clear hK f3 f4 i4 i5 hs0
      by_cases hc0 : s0 = 0
      · have e3 : A.eq s0 0 = true := by rw [hA.eq]; exact decide_eq_true hc0
        rw [decide_eq_true hc0, Bool.true_and] at hr2
        subst hr2
        cbv
        repeat' first | with_reducible rfl | (simp only [e3]; cbv) | (simp only [← hzl]; cbv) | (simp only [e8]; cbv) | with_reducible refine And.intro ?_ ?_ | ((with_reducible intro hcc); first | (cases hcc; done) | skip) | ((with_reducible show goC _ _ _ _ _ _ _ _); cbv) | ((with_reducible show goOps _ _ _ _ _); cbv) | ((with_reducible show okWr _ _ = _); rfl) | ((with_reducible refine callK_eq hA hP ?_ ?_ ?_ (Wks.refl _) (fun _ _ => h234)); exact rfl; exact rfl; cbv) | ((with_reducible refine hA.len es _ _ _ _ fun z hz hb => ?_); (have e6 := hze.trans hz.symm); subst e6; cbv) | ((with_reducible refine hA.row es zl _ ⟨hil, fun row hrow => ?_⟩); rw [g1] at hrow; subst hrow; cbv) | ((with_reducible refine hA.ld1 _ _ _ ⟨?_, fun c hc => ?_⟩); rotate_left; (have e9 := lds hb hc); subst e9; cbv) | ((with_reducible refine hA.fin_pl _ _ _ ?_); cbv) | ((with_reducible refine hA.len _ _ _ _ _ fun z hz hb => ?_); cbv) | ((with_reducible refine hA.off _ _ _ _ fun b hb => ?_); cbv) | ((with_reducible refine hA.plus _ _ _ fun b hb => ?_); cbv) | ((with_reducible refine hA.rep _ _ _ fun ds m hds hm => ?_); cbv) | ((with_reducible refine hA.st _ _ _ _ _ ⟨?_, fun ds hds => ?_⟩); rotate_left; cbv) | ((with_reducible refine hA.alt _ _ (Or.inl ?_)); cbv) | ((with_reducible refine hA.sapp _ _ _ ⟨?_, fun sl hsl => ?_⟩); rotate_left; cbv) | ((with_reducible refine hA.gb0 true _ ?_); cbv) | ((with_reducible refine hA.gb0 false _ ?_); cbv) | ((with_reducible refine hA.gb _ _ fun vb hvb => ?_); cbv) | (simp only [hA.natLit, hA.natOf, hA.natCast]; cbv)
        all_goals try simp only [hA.add, hA.sub, hA.mul, hA.neg, hA.div, hA.mod, hA.mn, hA.mx, hA.eq, hA.lt, hA.le, hA.nat, hA.R, hA.lep, hA.ltp, hA.seq, inR, n_cast, Int.ofNat_eq_natCast, Option.getD_some, Option.getD_none] at *
        all_goals first
          | omega
          | (rw [hvb]; done)
          | (rw [hvb]; rfl)
          | (subst_vars; rfl)
          | (trace_state; fail)
      · have e3 : A.eq s0 0 = false := by rw [hA.eq]; exact decide_eq_false hc0
        rw [decide_eq_false hc0, Bool.false_and] at hr2
        subst hr2
        cbv
        repeat' first | with_reducible rfl | (simp only [e3]; cbv) | (simp only [← hzl]; cbv) | (simp only [e8]; cbv) | with_reducible refine And.intro ?_ ?_ | ((with_reducible intro hcc); first | (cases hcc; done) | skip) | ((with_reducible show goC _ _ _ _ _ _ _ _); cbv) | ((with_reducible show goOps _ _ _ _ _); cbv) | ((with_reducible show okWr _ _ = _); rfl) | ((with_reducible refine hA.len es _ _ _ _ fun z hz hb => ?_); (have e6 := hze.trans hz.symm); subst e6; cbv) | ((with_reducible refine hA.row es zl _ ⟨hil, fun row hrow => ?_⟩); rw [g1] at hrow; subst hrow; cbv) | ((with_reducible show A.call _ _ _ _ false _ _ _ _); refine callK_no hA (.bool false) ?_; cbv) | ((with_reducible refine hA.ld1 _ _ _ ⟨?_, fun c hc => ?_⟩); rotate_left; (have e9 := lds hb hc); subst e9; cbv) | ((with_reducible refine hA.fin_pl _ _ _ ?_); cbv) | ((with_reducible refine hA.len _ _ _ _ _ fun z hz hb => ?_); cbv) | ((with_reducible refine hA.off _ _ _ _ fun b hb => ?_); cbv) | ((with_reducible refine hA.plus _ _ _ fun b hb => ?_); cbv) | ((with_reducible refine hA.rep _ _ _ fun ds m hds hm => ?_); cbv) | ((with_reducible refine hA.st _ _ _ _ _ ⟨?_, fun ds hds => ?_⟩); rotate_left; cbv) | ((with_reducible refine hA.alt _ _ (Or.inl ?_)); cbv) | ((with_reducible refine hA.sapp _ _ _ ⟨?_, fun sl hsl => ?_⟩); rotate_left; cbv) | ((with_reducible refine hA.gb0 true _ ?_); cbv) | ((with_reducible refine hA.gb0 false _ ?_); cbv) | ((with_reducible refine hA.gb _ _ fun vb hvb => ?_); cbv) | (simp only [hA.natLit, hA.natOf, hA.natCast]; cbv)
        all_goals try simp only [hA.add, hA.sub, hA.mul, hA.neg, hA.div, hA.mod, hA.mn, hA.mx, hA.eq, hA.lt, hA.le, hA.nat, hA.R, hA.lep, hA.ltp, hA.seq, inR, n_cast, Int.ofNat_eq_natCast, Option.getD_some, Option.getD_none] at *
        all_goals first
          | omega
          | (trace_state; fail)
    case pos =>
      clear g0 hx g1 hKA h234
      have e8 : A.lt i ze = true := by rw [hA.lt]; exact decide_eq_true (by omega)
      obtain ⟨K, N, M, S, T, Ks, x, g0, hx, g1⟩ := node_at he hi
      have hks : kidsAt ns i.toNat = Ks := by rw [kidsAt, g0]
      have hmem : (⟨K, N, M, S, T, Ks⟩ : Nd) ∈ ns := by
        rw [← g0]
        simp [List.getD, show i.toNat < ns.length by omega]
      have hkl1 : Ks.length ≤ 1048576 := hkl _ hmem
      have hxl : x.length = Ks.length := by rw [hx]; simp
      obtain ⟨zx, hzx⟩ : ∃ z : Int, z = x.length := ⟨_, rfl⟩
      obtain ⟨nk, hnk⟩ : ∃ z : Nat, z = x.length := ⟨_, rfl⟩
      obtain ⟨zk, hzk⟩ : ∃ z, z = A.sub zx 1 := ⟨_, rfl⟩
      have hzk2 : zk = zx - 1 := by rw [hzk, hA.sub]
      obtain ⟨f, hf⟩ : ∃ f : Int → Int, f = fun j => st ns j.toNat := ⟨_, rfl⟩
      obtain ⟨g, hg⟩ : ∃ f : Int → Int, f = fun j => dp ns j.toNat := ⟨_, rfl⟩
      have hsti := st_eq ns i.toNat
      rw [hks, ← hf, show ((i.toNat : Nat) : Int) = i by omega] at hsti
      obtain ⟨si, hsi⟩ : ∃ z, z = st ns i.toNat := ⟨_, rfl⟩
      rw [← hsi] at hsti
      have hdpi : 0 ≤ si → dp ns i.toNat = maxL g Ks + 1 := fun h => by
        have := dp_eq (ns := ns) (i := i.toNat) (by omega)
        rw [hks, ← hg] at this; exact this
      have hrow : rowOk ns i.toNat = fOk ⟨K, N, M, S, T, Ks⟩ (Ks.map (kAt ns)) := by rw [rowOk, g0, hks]
      have f3' := f3 i.toNat (by omega)
      rw [← hsi] at f3'
      cbv
      repeat' first | with_reducible rfl | (simp only [← hzk]; cbv) | (simp only [e8]; cbv) | with_reducible refine And.intro ?_ ?_ | ((with_reducible intro hcc); first | (cases hcc; done) | skip) | ((with_reducible show goC _ _ _ _ _ _ _ _); cbv) | ((with_reducible show goOps _ _ _ _ _); cbv) | ((with_reducible show okWr _ _ = _); rfl) | ((with_reducible refine hA.len es _ _ _ _ fun z hz hb => ?_); (have e6 := hze.trans hz.symm); subst e6; cbv) | ((with_reducible refine hA.len x _ _ _ _ fun z hz hb => ?_); (have e6 := hzx.trans hz.symm); subst e6; cbv) | ((with_reducible refine hA.rep _ _ _ fun ds m hds hm => ?_); (have e7 : nk = m := (by rw [hnk, hm, hzx]; rfl)); subst e7; cbv) | ((with_reducible refine hA.row es i _ ⟨hi, fun row hrow => ?_⟩); rw [g1] at hrow; subst hrow; cbv) | ((with_reducible refine hA.st [_, _, _, _, _, _] _ _ _ _ ⟨?_, fun ds hds => ?_⟩); rotate_left; (have hds : ds = [.int K, .int N, .int M, .str S, .str T, .e (.sl x)] := hds); subst hds; cbv) | ((with_reducible refine hA.fin_pl _ _ _ ?_); cbv) | ((with_reducible refine hA.len _ _ _ _ _ fun z hz hb => ?_); cbv) | ((with_reducible refine hA.off _ _ _ _ fun b hb => ?_); cbv) | ((with_reducible refine hA.plus _ _ _ fun b hb => ?_); cbv) | ((with_reducible refine hA.rep _ _ _ fun ds m hds hm => ?_); cbv) | ((with_reducible refine hA.st _ _ _ _ _ ⟨?_, fun ds hds => ?_⟩); rotate_left; cbv) | ((with_reducible refine hA.alt _ _ (Or.inl ?_)); cbv) | ((with_reducible refine hA.sapp _ _ _ ⟨?_, fun sl hsl => ?_⟩); rotate_left; cbv) | ((with_reducible refine hA.gb0 true _ ?_); cbv) | ((with_reducible refine hA.gb0 false _ ?_); cbv) | ((with_reducible refine hA.gb _ _ fun vb hvb => ?_); cbv) | (simp only [hA.natLit, hA.natOf, hA.natCast]; cbv)
      all_goals try simp only [hA.add, hA.sub, hA.mul, hA.neg, hA.div, hA.mod, hA.mn, hA.mx, hA.eq, hA.lt, hA.le, hA.nat, hA.R, hA.lep, hA.ltp, hA.seq, inR, n_cast, Int.ofNat_eq_natCast, Option.getD_some, Option.getD_none] at *
      all_goals try omega
      refine hA.loopI (fun mm s => ∃ (k a dv : Int) (c4 d2 : List Int) (ds4 ds2' : List D), (-1 ≤ k ∧ k < nk ∧ mm = (k + 1).toNat ∧ 0 ≤ a ∧ a ≤ i ∧ 0 ≤ dv ∧ dv ≤ 200) ∧ si = chain f (Ks.take (k + 1).toNat).reverse a ∧ dv = maxL g (Ks.drop (k + 1).toNat) ∧ c4.length = nk ∧ c4.drop (k + 1).toNat = (Ks.drop (k + 1).toNat).map (kAt ns) ∧ d2 = d1.set i.toNat dv ∧ ds4 = dsI c4 ∧ ds2' = dsI d2 ∧
          s = ⟨[(9, .int k), (7, .int a), (8, .bs 4 0 nk 1), (6, .ref 3 0), (5, .int i), (33, .int i), (32, .int ze), (31, .e (.sl es)), (1, .ref 0 0), (3, .bs 1 0 n 1), (4, .bs 2 0 n 1), (2, .bool false)], [.box [.e (.sl es)], .box ds1, .box ds2', .box [.int K, .int N, .int M, .str S, .str T, .e (.sl x)], .box ds4]⟩) nk _
        (Weak.keep (env' := [(9, .int zk), (7, .int i), (8, .bs 4 0 nk 1), (6, .ref 3 0), (5, .int i), (33, .int i), (32, .int ze), (31, .e (.sl es)), (1, .ref 0 0), (3, .bs 1 0 n 1), (4, .bs 2 0 n 1), (2, .bool false)]) ⟨rfl, rfl, rfl, rfl, rfl, rfl, rfl, rfl, rfl, rfl, rfl, rfl, trivial⟩)
        ⟨zk, i, 0, List.replicate nk 0, d1, _, _, ⟨by omega, by omega, by omega, by omega, by omega, by omega, by omega⟩, ?_, ?_, by simp, ?_, ?_, ?_, hd2, rfl⟩ ?_
      · rw [hsti, List.take_of_length_le (by omega)]
      · rw [List.drop_eq_nil_of_le (by omega)]; rfl
      · rw [List.drop_eq_nil_of_le (by simp; omega), List.drop_eq_nil_of_le (by omega)]; rfl
      · refine List.ext_getElem? fun j => ?_
        by_cases hj : i.toNat = j
        · subst hj
          rw [i5 i.toNat (by omega) (by omega), List.getElem?_set_self (by omega)]
        · rw [List.getElem?_set_ne hj]
      · rw [← rep_dsI, show nk = zx.toNat by omega]; assumption
      have hzk := hzk2.trans (hA.sub zx 1).symm
      rintro mk s K2 ⟨k, a, dv, c4, d2, ds4, ds2', ⟨k0, k1, k2, a0, a1, dv0, dv1⟩, hsi2, hdv, hc4l, hc4, hd2s, hds4, hds2', rfl⟩ hK1
      have hl4 : ds4.length = nk := by rw [hds4, dsI_len, hc4l]
      have hl2' : ds2'.length = n := by rw [hds2', dsI_len, hd2s, List.length_set, i3]
      have hd2l : d2.length = n := by rw [hd2s, List.length_set, i3]
      have ldi : ∀ {b : Nat} {c : D}, b = 0 + i.toNat * 1 → c = ds2'.getD b default → c = .int dv := fun {b c} q1 q2 =>
        dsI_get hds2' (by rw [hd2s, show b = i.toNat by omega]; exact List.getElem?_set_self (by omega)) q2
      have i1' : i < n := by omega
      by_cases hk : 0 ≤ k
      case pos =>
        clear hK
        have e3 : A.le 0 k = true := by rw [hA.le]; exact decide_eq_true hk
        have hkx : (0 : Int) ≤ k ∧ k < x.length := by omega
        obtain ⟨kid, e2, q2⟩ := int_at hx hkx
        obtain ⟨p1, p2⟩ := List.getElem?_eq_some_iff.1 q2
        have hkn : (k + 1).toNat = k.toNat + 1 := by omega
        rw [hkn, List.take_succ_eq_append_getElem p1, p2, List.reverse_append, List.reverse_singleton, List.singleton_append, chain] at hsi2
        obtain ⟨za, hza⟩ : ∃ z, z = A.sub a 1 := ⟨_, rfl⟩
        have hza2 : za = a - 1 := by rw [hza, hA.sub]
        by_cases hane : a < 1 ∨ kid ≠ za
        case pos =>
          have hr3 : r = false := f3' fun q => by
            rw [if_pos (by omega)] at hsi2
            omega
          clear hK1 f3' hc4 hdv hsi2 i4 i5
          by_cases ha : a < 1
          · have e4 : A.lt a 1 = true := by rw [hA.lt]; exact decide_eq_true ha
            cbv
            repeat' first | with_reducible rfl | (simp only [← hza]; cbv) | (simp only [e4]; cbv) | (simp only [e3]; cbv) | with_reducible refine And.intro ?_ ?_ | ((with_reducible intro hcc); first | (cases hcc; done) | skip) | ((with_reducible show goC _ _ _ _ _ _ _ _); cbv) | ((with_reducible show goOps _ _ _ _ _); cbv) | ((with_reducible show okWr _ _ = _); rfl) | ((with_reducible refine hA.row x k _ ⟨hkx, fun row hrow => ?_⟩); rw [e2] at hrow; subst hrow; cbv) | ((with_reducible refine hA.fin_pl _ _ _ ?_); cbv) | ((with_reducible refine hA.len _ _ _ _ _ fun z hz hb => ?_); cbv) | ((with_reducible refine hA.off _ _ _ _ fun b hb => ?_); cbv) | ((with_reducible refine hA.plus _ _ _ fun b hb => ?_); cbv) | ((with_reducible refine hA.rep _ _ _ fun ds m hds hm => ?_); cbv) | ((with_reducible refine hA.st _ _ _ _ _ ⟨?_, fun ds hds => ?_⟩); rotate_left; cbv) | ((with_reducible refine hA.alt _ _ (Or.inl ?_)); cbv) | ((with_reducible refine hA.sapp _ _ _ ⟨?_, fun sl hsl => ?_⟩); rotate_left; cbv) | ((with_reducible refine hA.gb0 true _ ?_); cbv) | ((with_reducible refine hA.gb0 false _ ?_); cbv) | ((with_reducible refine hA.gb _ _ fun vb hvb => ?_); cbv) | (simp only [hA.natLit, hA.natOf, hA.natCast]; cbv)
            all_goals try simp only [hA.add, hA.sub, hA.mul, hA.neg, hA.div, hA.mod, hA.mn, hA.mx, hA.eq, hA.lt, hA.le, hA.nat, hA.R, hA.lep, hA.ltp, hA.seq, inR, n_cast, Int.ofNat_eq_natCast, Option.getD_some, Option.getD_none] at *
            all_goals first
              | omega
              | (rw [hr3]; done)
              | (trace_state; fail)
          · have e4 : A.lt a 1 = false := by rw [hA.lt]; exact decide_eq_false ha
            have e5 : A.eq kid za = false := by rw [hA.eq]; exact decide_eq_false (by omega)
            cbv
            repeat' first | with_reducible rfl | (simp only [e5]; cbv) | (simp only [← hza]; cbv) | (simp only [e4]; cbv) | (simp only [e3]; cbv) | with_reducible refine And.intro ?_ ?_ | ((with_reducible intro hcc); first | (cases hcc; done) | skip) | ((with_reducible show goC _ _ _ _ _ _ _ _); cbv) | ((with_reducible show goOps _ _ _ _ _); cbv) | ((with_reducible show okWr _ _ = _); rfl) | ((with_reducible refine hA.row x k _ ⟨hkx, fun row hrow => ?_⟩); rw [e2] at hrow; subst hrow; cbv) | ((with_reducible refine hA.fin_pl _ _ _ ?_); cbv) | ((with_reducible refine hA.len _ _ _ _ _ fun z hz hb => ?_); cbv) | ((with_reducible refine hA.off _ _ _ _ fun b hb => ?_); cbv) | ((with_reducible refine hA.plus _ _ _ fun b hb => ?_); cbv) | ((with_reducible refine hA.rep _ _ _ fun ds m hds hm => ?_); cbv) | ((with_reducible refine hA.st _ _ _ _ _ ⟨?_, fun ds hds => ?_⟩); rotate_left; cbv) | ((with_reducible refine hA.alt _ _ (Or.inl ?_)); cbv) | ((with_reducible refine hA.sapp _ _ _ ⟨?_, fun sl hsl => ?_⟩); rotate_left; cbv) | ((with_reducible refine hA.gb0 true _ ?_); cbv) | ((with_reducible refine hA.gb0 false _ ?_); cbv) | ((with_reducible refine hA.gb _ _ fun vb hvb => ?_); cbv) | (simp only [hA.natLit, hA.natOf, hA.natCast]; cbv)
            all_goals try simp only [hA.add, hA.sub, hA.mul, hA.neg, hA.div, hA.mod, hA.mn, hA.mx, hA.eq, hA.lt, hA.le, hA.nat, hA.R, hA.lep, hA.ltp, hA.seq, inR, n_cast, Int.ofNat_eq_natCast, Option.getD_some, Option.getD_none] at *
            all_goals first
              | omega
              | (rw [hr3]; done)
              | (trace_state; fail)
        case neg =>
          obtain ⟨j4, j5, j6⟩ := i4 kid.toNat (by omega)
          obtain ⟨sk, hsk⟩ : ∃ z, z = st ns kid.toNat := ⟨_, rfl⟩
          obtain ⟨dk, hdk⟩ : ∃ z, z = dp ns kid.toNat := ⟨_, rfl⟩
          have hskl := st_le ns kid.toNat
          rw [← hsk] at j4 j5 hskl
          rw [← hdk] at j4 j6
          have hfk : f (a - 1) = sk := by rw [hf, hsk, show a - 1 = kid by omega]
          have hgk : g kid = dk := by rw [hg, hdk]
          rw [hfk, if_neg (by omega)] at hsi2
          have hke : (0 : Int) ≤ kid ∧ kid < es.length := by omega
          obtain ⟨kK, kN, kM, kS, kT, kKs, kx, kg0, khx, kg1⟩ := node_at he hke
          have hkA : kAt ns kid = kK := kAt_at kg0
          have ldk : ∀ {b : Nat} {c : D}, b = 0 + kid.toNat * 1 → c = ds2'.getD b default → c = .int dk := fun {b c} q1 q2 =>
            dsI_get hds2' (by rw [hd2s, show b = kid.toNat by omega, List.getElem?_set_ne (show i.toNat ≠ kid.toNat by omega)]; exact j6) q2
          have lds : ∀ {b : Nat} {c : D}, b = 0 + kid.toNat * 1 → c = ds1.getD b default → c = .int sk := fun {b c} q1 q2 =>
            dsI_get hd1 (by rw [show b = kid.toNat by omega]; exact j5) q2
          have hdr : Ks.drop k.toNat = kid :: Ks.drop (k.toNat + 1) := by rw [List.drop_eq_getElem_cons p1, p2]
          have hdk0 := j4.2.1
          have hdn : 0 ≤ dk := by
            rw [hdk, dp_eq (by omega)]
            have := maxL_nonneg (fun j => dp ns j.toNat) (kidsAt ns kid.toNat)
            omega
          have hK3 : ∀ (u v : Nat) (w : Int) (dsa dsb : List D) (env : List (Nat × D)), u = k.toNat → v = i.toNat → w = max dv dk → dsa = ds4.take u ++ [.int kK] ++ ds4.drop (u + 1) → dsb = ds2'.take v ++ [.int w] ++ ds2'.drop (v + 1) → subL [(9, .int (k - 1)), (7, .int sk), (8, .bs 4 0 nk 1), (6, .ref 3 0), (5, .int i), (33, .int i), (32, .int ze), (31, .e (.sl es)), (1, .ref 0 0), (3, .bs 1 0 n 1), (4, .bs 2 0 n 1), (2, .bool false)] env →
              K2 ⟨env, [.box [.e (.sl es)], .box ds1, .box dsb, .box [.int K, .int N, .int M, .str S, .str T, .e (.sl x)], .box dsa]⟩ := fun u v w dsa dsb env t1 t2 t3 t4 t5 t6 =>
            hK1 _ (mk - 1) _ (by omega) (Weak.keep t6) ⟨k - 1, sk, w, c4.set u kK, d1.set i.toNat w, dsa, dsb, ⟨by omega, by omega, by omega, by omega, by omega, by omega, by omega⟩, by rw [show (k - 1 + 1).toNat = k.toNat by omega]; exact hsi2,
              by rw [show (k - 1 + 1).toNat = k.toNat by omega, hdr, maxL, hgk, ← hkn, ← hdv]; omega, by rw [List.length_set, hc4l], by
                rw [show (k - 1 + 1).toNat = k.toNat by omega, hdr, List.map_cons, hkA, ← hkn, ← hc4, t1]
                rw [List.drop_eq_getElem_cons (by simp; omega), List.getElem_set_self, hkn]
                rw [List.drop_set_of_lt (by omega)], rfl, dsI_set hds4 (by omega) t4, by
                rw [dsI_set hds2' (by omega) t5, t2, hd2s, List.set_set], rfl⟩
          have e4 : A.lt a 1 = false := by rw [hA.lt]; exact decide_eq_false (by omega)
          have e5 : A.eq kid za = true := by rw [hA.eq]; exact decide_eq_true (by omega)
          clear hK1 f3' hc4 hdv hsi2 i4 i5 j5 j6
          cbv
          repeat' first | with_reducible rfl | (simp only [e5]; cbv) | (simp only [← hza]; cbv) | (simp only [e4]; cbv) | (simp only [e3]; cbv) | with_reducible refine And.intro ?_ ?_ | ((with_reducible intro hcc); first | (cases hcc; done) | skip) | ((with_reducible show goC _ _ _ _ _ _ _ _); cbv) | ((with_reducible show goOps _ _ _ _ _); cbv) | ((with_reducible show okWr _ _ = _); rfl) | ((with_reducible refine hA.row x k _ ⟨hkx, fun row hrow => ?_⟩); rw [e2] at hrow; subst hrow; cbv) | ((with_reducible refine hA.row es kid _ ⟨hke, fun row hrow => ?_⟩); rw [kg1] at hrow; subst hrow; cbv) | ((with_reducible refine hA.ld1 _ _ _ ⟨?_, fun c hc => ?_⟩); rotate_left; first | ((have e9 := ldi hb hc); subst e9; cbv) | ((have e9 := ldk hb hc); subst e9; cbv) | ((have e9 := lds hb hc); subst e9; cbv)) | ((with_reducible refine hA.st ds4 _ _ _ _ ⟨?_, fun dsa hdsa => ?_⟩); rotate_left; cbv) | ((with_reducible refine hA.st ds2' _ _ _ _ ⟨?_, fun dsb hdsb => ?_⟩); rotate_left; cbv) | ((with_reducible refine hA.fin_pl _ _ _ ?_); cbv) | ((with_reducible refine hA.len _ _ _ _ _ fun z hz hb => ?_); cbv) | ((with_reducible refine hA.off _ _ _ _ fun b hb => ?_); cbv) | ((with_reducible refine hA.plus _ _ _ fun b hb => ?_); cbv) | ((with_reducible refine hA.rep _ _ _ fun ds m hds hm => ?_); cbv) | ((with_reducible refine hA.st _ _ _ _ _ ⟨?_, fun ds hds => ?_⟩); rotate_left; cbv) | ((with_reducible refine hA.alt _ _ (Or.inl ?_)); cbv) | ((with_reducible refine hA.sapp _ _ _ ⟨?_, fun sl hsl => ?_⟩); rotate_left; cbv) | ((with_reducible refine hA.gb0 true _ ?_); cbv) | ((with_reducible refine hA.gb0 false _ ?_); cbv) | ((with_reducible refine hA.gb _ _ fun vb hvb => ?_); cbv) | (simp only [hA.natLit, hA.natOf, hA.natCast]; cbv)
          all_goals try simp only [hA.add, hA.sub, hA.mul, hA.neg, hA.div, hA.mod, hA.mn, hA.mx, hA.eq, hA.lt, hA.le, hA.nat, hA.R, hA.lep, hA.ltp, hA.seq, inR, n_cast, Int.ofNat_eq_natCast, Option.getD_some, Option.getD_none] at *
          all_goals first
            | omega
            | exact hK3 _ _ _ dsa dsb _ (by omega) (by omega) rfl hdsa hdsb ⟨rfl, rfl, rfl, rfl, rfl, rfl, rfl, rfl, rfl, rfl, rfl, rfl, trivial⟩
            | (trace_state; fail)
      case neg =>
        have hk1 : k = -1 := by omega
        have e3 : A.le 0 k = false := by rw [hA.le]; exact decide_eq_false (by omega)
        rw [show (k + 1).toNat = 0 by omega] at hsi2 hdv hc4
        have hsa : si = a := hsi2
        have hdpe := hdpi (by omega)
        rw [← show dv = maxL g Ks from hdv] at hdpe
        rw [List.drop_zero, List.drop_zero] at hc4
        obtain ⟨bb, hbb⟩ : ∃ b, b = rowOk ns i.toNat := ⟨_, rfl⟩
        have f5 : ¬ (dp ns i.toNat ≤ 200 ∧ bb = true) → r = false := fun h => f3' fun q => h ⟨q.2.1, by rw [hbb]; exact q.2.2⟩
        rw [hdpe] at f5
        obtain ⟨x4, hx4⟩ : ∃ x, x = (Ks.map (kAt ns)).map ir := ⟨_, rfl⟩
        have hx4l : x4.length = nk := by rw [hx4]; simp; omega
        have h233 := ok68 K N M S T Ks x (Ks.map (kAt ns)) x4 hx4 (by omega)
        rw [← hrow, ← hbb] at h233
        have hq1 : ds4.take (nk * 1) = x4.flatten.map .e := by
          rw [List.take_of_length_le (by omega), hds4, hc4, dsI_flat, hx4]
        have hq3 : ∀ e ∈ x4, e.length = 1 := fun e q => by
          rw [hx4] at q
          obtain ⟨p, _, rfl⟩ := List.mem_map.1 q
          rfl
        obtain ⟨dq, hdq⟩ : ∃ z, z = A.add dv 1 := ⟨_, rfl⟩
        have hdq2 : dq = dv + 1 := by rw [hdq, hA.add]
        have ldq : ∀ {v b : Nat} {c : D} {dsb : List D}, dsb = ds2'.take v ++ [.int dq] ++ ds2'.drop (v + 1) → v = i.toNat → b = 0 + i.toNat * 1 → c = dsb.getD b default → c = .int dq := fun {v b c dsb} t1 t2 t3 t4 =>
          dsI_get (dsI_set hds2' (by omega) t1) (by rw [show b = i.toNat by omega, t2]; exact List.getElem?_set_self (by omega)) t4
        have hKx : ∀ (u v : Nat) (dsa dsb : List D) (env : List (Nat × D)) (o3 o4 : O), dq ≤ 200 → bb = true → u = i.toNat → v = i.toNat → dsa = ds1.take u ++ [.int a] ++ ds1.drop (u + 1) → dsb = ds2'.take v ++ [.int dq] ++ ds2'.drop (v + 1) →
            subW [(33, .int (i + 1)), (32, .int ze), (31, .e (.sl es)), (1, .ref 0 0), (3, .bs 1 0 n 1), (4, .bs 2 0 n 1), (2, .bool false)] env → K' ⟨env, [.box [.e (.sl es)], .box dsa, .box dsb, o3, o4]⟩ := fun u v dsa dsb env o3 o4 t1 t2 t3 t4 t5 t6 t7 => by
          have y1 := dsI_set hd1 (by omega) t5
          have y2 := dsI_set hds2' (by omega) t6
          refine hK _ (m - 1) _ (by omega) (Weak.ren (l0 := []) [0, 1, 2] (fun t => [(33, .int (i + 1)), (32, .int ze), (31, .e (.sl es)), (1, .ref (t 0) 0), (3, .bs (t 1) 0 n 1), (4, .bs (t 2) 0 n 1), (2, .bool false)]) (fun _ => ob3 es dsa dsb) rfl t7 ⟨rfl, rfl, rfl, trivial⟩ (ob3_side y1 y2 (fun t => rfl) rfl))
            ⟨i + 1, _, _, dsa, dsb, by omega, by omega, by rw [List.length_set, i2], by rw [List.length_set, hd2l], fun j hj => ?_, fun j h1 h2 => ?_, y1, y2, rfl⟩
          · by_cases hji : (j : Int) < i
            · obtain ⟨z1, z2, z3⟩ := i4 j hji
              exact ⟨z1, by rw [List.getElem?_set_ne (by omega)]; exact z2, by rw [List.getElem?_set_ne (by omega), hd2s, List.getElem?_set_ne (by omega)]; exact z3⟩
            · have : j = i.toNat := by omega
              subst this
              exact ⟨⟨by omega, by omega, by rw [← hbb]; exact t2⟩, by rw [t3, List.getElem?_set_self (by omega), ← hsi, hsa], by rw [t4, List.getElem?_set_self (by omega), hdpe, hdq2]⟩
          · rw [List.getElem?_set_ne (by omega), hd2s, List.getElem?_set_ne (by omega)]
            exact i5 j (by omega) h2
        clear hK hK1 f3 f3' f4 i4 i5 hsi hsti hdpi hrow hbb hdpe hsi2 hdv hc4
        by_cases h200 : 200 < dq
        · have e6 : A.lt 200 dq = true := by rw [hA.lt]; exact decide_eq_true h200
          have hr3 : r = false := f5 fun q => by omega
          cbv
          repeat' first | with_reducible rfl | (simp only [e6]; cbv) | (simp only [← hdq]; cbv) | (simp only [e3]; cbv) | with_reducible refine And.intro ?_ ?_ | ((with_reducible intro hcc); first | (cases hcc; done) | skip) | ((with_reducible show goC _ _ _ _ _ _ _ _); cbv) | ((with_reducible show goOps _ _ _ _ _); cbv) | ((with_reducible show okWr _ _ = _); rfl) | ((with_reducible show A.call _ _ _ _ false _ _ _ _); refine callK_no hA (.bool false) ?_; cbv) | ((with_reducible refine hA.ld1 ds2' _ _ ⟨?_, fun c hc => ?_⟩); rotate_left; (have e9 := ldi hb hc); subst e9; cbv) | ((with_reducible refine hA.st ds1 _ _ _ _ ⟨?_, fun dsa hdsa => ?_⟩); rotate_left; cbv) | ((with_reducible refine hA.st ds2' _ _ _ _ ⟨?_, fun dsb hdsb => ?_⟩); rotate_left; cbv) | ((with_reducible refine hA.ld1 dsb _ _ ⟨?_, fun c hc => ?_⟩); rotate_left; (have e9 := ldq hdsb (by omega) hb hc); subst e9; cbv) | ((with_reducible refine hA.fin_pl _ _ _ ?_); cbv) | ((with_reducible refine hA.len _ _ _ _ _ fun z hz hb => ?_); cbv) | ((with_reducible refine hA.off _ _ _ _ fun b hb => ?_); cbv) | ((with_reducible refine hA.plus _ _ _ fun b hb => ?_); cbv) | ((with_reducible refine hA.rep _ _ _ fun ds m hds hm => ?_); cbv) | ((with_reducible refine hA.st _ _ _ _ _ ⟨?_, fun ds hds => ?_⟩); rotate_left; cbv) | ((with_reducible refine hA.alt _ _ (Or.inl ?_)); cbv) | ((with_reducible refine hA.sapp _ _ _ ⟨?_, fun sl hsl => ?_⟩); rotate_left; cbv) | ((with_reducible refine hA.gb0 true _ ?_); cbv) | ((with_reducible refine hA.gb0 false _ ?_); cbv) | ((with_reducible refine hA.gb _ _ fun vb hvb => ?_); cbv) | (simp only [hA.natLit, hA.natOf, hA.natCast]; cbv)
          all_goals try simp only [hA.add, hA.sub, hA.mul, hA.neg, hA.div, hA.mod, hA.mn, hA.mx, hA.eq, hA.lt, hA.le, hA.nat, hA.R, hA.lep, hA.ltp, hA.seq, inR, n_cast, Int.ofNat_eq_natCast, Option.getD_some, Option.getD_none] at *
          all_goals first
            | omega
            | (rw [hr3]; done)
            | (rw [hdsb]; simp; omega)
            | (trace_state; fail)
        · have e6 : A.lt 200 dq = false := by rw [hA.lt]; exact decide_eq_false h200
          cases bb
          all_goals
            cbv
            repeat' first | with_reducible rfl | (simp only [e6]; cbv) | (simp only [← hdq]; cbv) | (simp only [e3]; cbv) | with_reducible refine And.intro ?_ ?_ | ((with_reducible intro hcc); first | (cases hcc; done) | skip) | ((with_reducible show goC _ _ _ _ _ _ _ _); cbv) | ((with_reducible show goOps _ _ _ _ _); cbv) | ((with_reducible show okWr _ _ = _); rfl) | ((with_reducible refine callK_look hA hP [4] (args := [.agg [.int K, .int N, .int M, .str S, .str T, .e (.sl x)], .e (.sl x4)]) ?_ ?_ ?_ (fun _ _ => h233)); exact ⟨.inl ⟨rfl, rfl⟩, .inr (.inr (.inr ⟨4, nk, 1, ds4, x4, rfl, List.mem_singleton.2 rfl, rfl, rfl, hq1, hx4l, hq3⟩)), trivial⟩; exact rfl; cbv) | ((with_reducible refine hA.ld1 ds2' _ _ ⟨?_, fun c hc => ?_⟩); rotate_left; (have e9 := ldi hb hc); subst e9; cbv) | ((with_reducible refine hA.st ds1 _ _ _ _ ⟨?_, fun dsa hdsa => ?_⟩); rotate_left; cbv) | ((with_reducible refine hA.st ds2' _ _ _ _ ⟨?_, fun dsb hdsb => ?_⟩); rotate_left; cbv) | ((with_reducible refine hA.ld1 dsb _ _ ⟨?_, fun c hc => ?_⟩); rotate_left; (have e9 := ldq hdsb (by omega) hb hc); subst e9; cbv) | ((with_reducible refine hA.fin_pl _ _ _ ?_); cbv) | ((with_reducible refine hA.len _ _ _ _ _ fun z hz hb => ?_); cbv) | ((with_reducible refine hA.off _ _ _ _ fun b hb => ?_); cbv) | ((with_reducible refine hA.plus _ _ _ fun b hb => ?_); cbv) | ((with_reducible refine hA.rep _ _ _ fun ds m hds hm => ?_); cbv) | ((with_reducible refine hA.st _ _ _ _ _ ⟨?_, fun ds hds => ?_⟩); rotate_left; cbv) | ((with_reducible refine hA.alt _ _ (Or.inl ?_)); cbv) | ((with_reducible refine hA.sapp _ _ _ ⟨?_, fun sl hsl => ?_⟩); rotate_left; cbv) | ((with_reducible refine hA.gb0 true _ ?_); cbv) | ((with_reducible refine hA.gb0 false _ ?_); cbv) | ((with_reducible refine hA.gb _ _ fun vb hvb => ?_); cbv) | (simp only [hA.natLit, hA.natOf, hA.natCast]; cbv)
            all_goals try simp only [hA.add, hA.sub, hA.mul, hA.neg, hA.div, hA.mod, hA.mn, hA.mx, hA.eq, hA.lt, hA.le, hA.nat, hA.R, hA.lep, hA.ltp, hA.seq, inR, n_cast, Int.ofNat_eq_natCast, Option.getD_some, Option.getD_none] at *
            all_goals first
              | omega
              | (rw [f5 (by simp)]; done)
              | (rw [hdsb]; simp; omega)
              | exact hKx _ _ dsa dsb _ _ _ (by omega) (by first | exact rfl | exact trivial) (by omega) (by omega) hdsa hdsb ⟨.inl rfl, .inl rfl, .inl rfl, .inl rfl, .inl rfl, .inl rfl, .inl rfl, trivial⟩
              | (trace_state; fail))
end Go.Proofs.Ytfplalbognalkaa.Ab
/- The law of AstOk. -/
namespace Go.Proofs.Ytfplalbognalkaa.Ab
open Go
def c5 : F := ⟨27, [(.tmp 2)], (.seq (.reg [⟨(some 1), none, (.box (.s 0))⟩, ⟨(some 2), none, (.mov (.c (.bool false)))⟩]) (.seq (.reg [⟨(some 3), none, (.mov (.c (.int 1048576)))⟩]) (.seq (.reg [⟨(some 7), none, (.load true 1 (.s 1))⟩, ⟨(some 8), none, (.mov (.s 3))⟩, ⟨(some 9), none, (.call 22 [(.s 7), (.s 8)])⟩, ⟨(some 3), none, (.mov (.s 9))⟩]) (.seq (.seq (.reg [⟨(some 10), none, (.mov (.s 3))⟩, ⟨(some 11), none, (.bin .lss (.s 10) (.c (.int 0)))⟩]) (.cond (.s 11) (.seq (.reg [⟨(some 2), none, (.mov (.c (.bool true)))⟩]) .ret) .skip)) (.seq (.reg [⟨(some 12), none, (.load true 1 (.s 1))⟩, ⟨(some 13), none, (.call 24 [(.s 12)])⟩, ⟨(some 14), none, (.call 23 [(.s 13)])⟩, ⟨(some 4), none, (.mov (.s 14))⟩]) (.seq (.reg [⟨(some 15), none, (.load true 1 (.s 1))⟩, ⟨(some 16), none, (.call 24 [(.s 15)])⟩, ⟨(some 5), none, (.alloc [(.e (.sl []))])⟩, ⟨none, none, (.store true 1 (.s 5) (.s 16))⟩]) (.seq (.reg [⟨(some 17), none, (.load true 1 (.s 5))⟩, ⟨(some 18), none, (.call 25 [(.s 17)])⟩, ⟨(some 6), none, (.mov (.s 18))⟩]) (.seq (.seq (.reg [⟨(some 19), none, (.mov (.s 6))⟩, ⟨(some 20), none, (.mov (.s 4))⟩, ⟨(some 21), none, (.binb .neq (.s 19) (.s 20))⟩]) (.cond (.s 21) (.seq (.reg [⟨(some 2), none, (.mov (.c (.bool false)))⟩]) .ret) .skip)) (.seq (.seq (.dreg [⟨⟨(some 22), none, (.load true 1 (.s 5))⟩, [], [5]⟩, ⟨⟨(some 23), none, (.load true 1 (.s 1))⟩, [0], [1]⟩, ⟨⟨(some 24), none, (.call 24 [(.s 23)])⟩, [0], [23]⟩, ⟨⟨(some 25), none, (.call 26 [(.s 22), (.s 24)])⟩, [], [22, 24]⟩, ⟨⟨(some 26), none, (.un .not (.s 25))⟩, [], [25]⟩]) (.cond (.s 26) (.seq (.reg [⟨(some 2), none, (.mov (.c (.bool false)))⟩]) .ret) .skip)) (.seq (.reg [⟨(some 2), none, (.mov (.c (.bool true)))⟩]) .ret))))))))))⟩
theorem p5 : prepF Try.prog 5 = some c5 := by kernel_rfl
theorem ast_in {ns : List Nd} (h : cNS ns ≤ 1048576) : ns.length ≤ 1048576 ∧ ∀ d ∈ ns, d.Ks.length ≤ 1048576 := by
  have h0 := sumC_nonneg cN_nonneg ns
  refine ⟨by unfold cNS at h; omega, fun d hd => ?_⟩
  have h1 := sumC_mem cN_nonneg hd
  unfold cNS at h
  have h2 : (d.Ks.length : Int) ≤ cN d := by unfold cN cI; omega
  omega
set_option maxRecDepth 100000 in
theorem ok5 (ns : List Nd) (x : List (List E)) (hx : x = ns.map ndr) : Plain Try.prog 5 [.agg [.e (.sl x)]] (.bool true) := okOf mixed p5 fun A P hA hP => (by
  have h1 := ok22 ns x hx 1048576 (by omega)
  by_cases c1 : (1048576 : Int) - cNS ns < 0
  · rw [show cut 1048576 (cNS ns) = -1 by unfold cut; rw [if_pos c1]] at h1
    cbv
    repeat' first | with_reducible rfl | with_reducible refine And.intro ?_ ?_ | ((with_reducible intro hcc); first | (cases hcc; done) | skip) | ((with_reducible show goC _ _ _ _ _ _ _ _); cbv) | ((with_reducible show goOps _ _ _ _ _); cbv) | ((with_reducible show okWr _ _ = _); rfl) | ((with_reducible refine callK_eq hA hP ?_ ?_ ?_ (Wks.refl _) (fun _ _ => h1)); exact rfl; exact rfl; cbv) | ((with_reducible refine hA.fin_pl _ _ _ ?_); cbv) | ((with_reducible refine hA.st _ _ _ _ _ ⟨?_, fun ds hds => ?_⟩); rotate_left; cbv) | (simp only [hA.natLit, hA.natOf, hA.natCast]; cbv)
    all_goals try simp only [hA.add, hA.sub, hA.mul, hA.neg, hA.div, hA.mod, hA.mn, hA.mx, hA.eq, hA.lt, hA.le, hA.nat, hA.R, hA.lep, hA.ltp, hA.seq, inR, n_cast, Int.ofNat_eq_natCast, Option.getD_some, Option.getD_none] at *
    all_goals grind
  · rw [show cut 1048576 (cNS ns) = 1048576 - cNS ns by unfold cut; rw [if_neg c1]] at h1
    have hsz : cNS ns ≤ 1048576 := by omega
    obtain ⟨a, ha⟩ : ∃ a : Int, a = 1048576 - cNS ns := ⟨_, rfl⟩
    rw [← ha] at h1
    obtain ⟨s1, s2⟩ := ast_in hsz
    have hxl : x.length ≤ 1048576 := by rw [hx, List.length_map]; exact s1
    have h2 := ok24 ns x hx s1 s2
    obtain ⟨r, hr⟩ : ∃ r : Bool, r = true ↔ sOk ns := by
      by_cases h : sOk ns
      · exact ⟨true, by simp [h]⟩
      · exact ⟨false, by simp [h]⟩
    have h3 := ok23 ns x hx s2 hxl r hr
    have h4 := ok25 ns x hx s2 hxl r (hr.trans (ok_iff ns).symm)
    have h5 := ok26 ns ns x x hx hx
    rw [decide_eq_true rfl] at h5
    clear hr s1 s2
    cbv
    repeat' first | with_reducible rfl | with_reducible refine And.intro ?_ ?_ | ((with_reducible intro hcc); first | (cases hcc; done) | skip) | ((with_reducible show goC _ _ _ _ _ _ _ _); cbv) | ((with_reducible show goOps _ _ _ _ _); cbv) | ((with_reducible show okWr _ _ = _); rfl) | ((with_reducible refine callK_eq hA hP ?_ ?_ ?_ (Wks.refl _) (fun _ _ => h1)); exact rfl; exact rfl; cbv) | ((with_reducible refine callK_eq hA hP ?_ ?_ ?_ (Wks.refl _) (fun _ _ => h2)); exact rfl; exact rfl; cbv) | ((with_reducible refine callK_eq hA hP ?_ ?_ ?_ (Wks.refl _) (fun _ _ => h3)); exact rfl; exact rfl; cbv) | ((with_reducible refine callK_eq hA hP ?_ ?_ ?_ (Wks.refl _) (fun _ _ => h4)); exact rfl; exact rfl; cbv) | ((with_reducible refine callK_eq hA hP ?_ ?_ ?_ (Wks.refl _) (fun _ _ => h5)); exact rfl; exact rfl; cbv) | ((with_reducible refine hA.fin_pl _ _ _ ?_); cbv) | ((with_reducible refine hA.st _ _ _ _ _ ⟨?_, fun ds hds => ?_⟩); rotate_left; cbv) | (simp only [hA.natLit, hA.natOf, hA.natCast]; cbv)
    all_goals try simp only [hA.add, hA.sub, hA.mul, hA.neg, hA.div, hA.mod, hA.mn, hA.mx, hA.eq, hA.lt, hA.le, hA.nat, hA.R, hA.lep, hA.ltp, hA.seq, inR, n_cast, Int.ofNat_eq_natCast, Option.getD_some, Option.getD_none] at *
    all_goals first | rfl | (clear h2 h3 h4 h5 hx; grind))
end Go.Proofs.Ytfplalbognalkaa.Ab
