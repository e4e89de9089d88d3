/- Tables: valid, by the program. -/
import Derived.Test.YtfplalbognalkaaMFnExactPlanOk3
set_option linter.unusedSimpArgs false
set_option linter.unusedVariables false
set_option linter.unnecessarySimpa false
set_option linter.constructorNameAsVariable false
namespace Go.Proofs.Ytfplalbognalkaa.Ab
open Go
theorem mlook_mset (l : List (List UInt8 × E)) (k : List UInt8) (v : E) (n : List UInt8) : mlook (mset l k v) n = if k = n then some v else mlook l n := by
  induction l with
  | nil => rfl
  | cons p l ih =>
    simp only [mset]
    by_cases h : p.1 = k
    · rw [if_pos h]
      simp only [mlook]
      by_cases h2 : k = n
      · rw [if_pos h2, if_pos h2]
      · rw [if_neg h2, if_neg h2, if_neg (by rw [h]; exact h2)]
    · rw [if_neg h]
      simp only [mlook]
      by_cases h3 : p.1 = n
      · rw [if_pos h3, if_pos h3, if_neg (fun e => h (h3.trans e.symm))]
      · rw [if_neg h3, if_neg h3, ih]
set_option maxRecDepth 100000 in
set_option maxHeartbeats 2000000 in
theorem ok135 (ts : List Tb) (x : List (List E)) (hx : x = ts.map tbr) (hsz : cTS ts ≤ 1048576) : Plain Try.prog 135 [.agg [.e (.sl x)]] (.bool (dbOk ts)) := okOf mixed p135 fun A P hA hP => (by
  have hl : x.length = ts.length := by rw [hx]; simp
  obtain ⟨d1, d2, d3⟩ := dbF ts
  obtain ⟨r, hr⟩ : ∃ r, r = dbOk ts := ⟨_, rfl⟩
  rw [← hr] at d1 d2 d3 ⊢
  clear hr
  cbv
  repeat' first | with_reducible rfl | with_reducible refine And.intro ?_ ?_ | ((with_reducible intro hcc); first | (cases hcc; done) | skip) | ((with_reducible show goC _ _ _ _ _ _ _ _); cbv) | ((with_reducible show goOps _ _ _ _ _); cbv) | ((with_reducible show goD _ _ _ _ _ _); cbv) | ((with_reducible show okWr _ _ = _); rfl) | ((with_reducible refine hA.fin_pl _ _ _ ?_); cbv) | ((with_reducible refine hA.len _ _ _ _ _ fun z hz hb => ?_); cbv) | ((with_reducible refine hA.off _ _ _ _ fun b hb => ?_); cbv) | ((with_reducible refine hA.plus _ _ _ fun b hb => ?_); cbv) | ((with_reducible refine hA.st _ _ _ _ _ ⟨?_, fun ds hds => ?_⟩); rotate_left; cbv) | ((with_reducible refine hA.sapp _ _ _ ⟨?_, fun sl hsl => ?_⟩); rotate_left; cbv) | ((with_reducible refine hA.gb0 true _ ?_); cbv) | ((with_reducible refine hA.gb0 false _ ?_); cbv) | ((with_reducible refine hA.gb _ _ fun vb hvb => ?_); cbv) | ((with_reducible refine hA.mget _ _ _ _ ⟨fun mv hmv => ?_, fun hmv => ?_⟩) <;> cbv) | ((with_reducible refine hA.mset _ _ _ _ fun ml hml => ?_); cbv) | (simp only [hA.natLit, hA.natOf, hA.natCast]; cbv)
  all_goals try simp only [hA.add, hA.sub, hA.mul, hA.neg, hA.div, hA.mod, hA.mn, hA.mx, hA.eq, hA.lt, hA.le, hA.nat, hA.R, hA.lep, hA.ltp, hA.seq, inR, n_cast, Int.ofNat_eq_natCast, Option.getD_some, Option.getD_none] at *
  all_goals try (first | (rw [d1 (by simp at *; omega)]; done))
  have h50 : ts.length ≤ 50 := by clear d1 d2 d3; simp at *; omega
  have hrn := sz_rows ts
  refine hA.loopI (fun m s => ∃ (i rows zz : Int) (ml : List (List UInt8 × E)), 0 ≤ i ∧ zz = x.length ∧ m + i = zz ∧ 0 ≤ rows ∧ rows + sumC rlen (ts.drop i.toNat) = sumC rlen ts ∧ (∀ (j : Nat) t, (j : Int) < i → ts[j]? = some t → good ts j t = true) ∧
      (∀ n, (∃ v, mlook ml n = some v) ↔ ∃ (j : Nat) (t : Tb), (j : Int) < i ∧ ts[j]? = some t ∧ t.1 = n) ∧
      s = ⟨[(19, .int i), (18, .int zz), (17, .e (.sl x)), (4, .int rows), (3, .mp 1), (2, .bool false), (1, .ref 0 0)], [.box [.e (.sl x)], .smap ml]⟩) x.length _
    (Weak.keep (env' := [(19, .int 0), (18, .int z), (17, .e (.sl x)), (4, .int 0), (3, .mp 1), (2, .bool false), (1, .ref 0 0)]) ⟨rfl, rfl, rfl, rfl, rfl, rfl, rfl, trivial⟩)
    ⟨0, 0, z, [], by omega, by omega, by omega, by omega, (by simp), (fun j t hj => by omega), (fun n => ⟨fun ⟨v, hv⟩ => (by simp [mlook] at hv), fun ⟨j, t, hj, _⟩ => (by omega)⟩), rfl⟩ ?_
  rintro m s K ⟨i, rows, zz, ml0, h0, hzz, h1, h2, h3, h4, h5, rfl⟩ hK
  by_cases hin : (0 : Int) ≤ i ∧ i < x.length
  · obtain ⟨⟨n1, c1, rs1⟩, e1, q1⟩ := row_at hx hin
    obtain ⟨x1, hx1⟩ : ∃ y, y = rs1.map rsr := ⟨_, rfl⟩
    have e1 : x.getD i.toNat [] = [E.str n1, E.int c1, E.sl x1] := e1.trans (by rw [hx1])
    have hl1 : x1.length = rs1.length := by rw [hx1]; simp
    rw [sumC_drop q1] at h3
    have hS := sumC_nonneg rlen_nonneg (ts.drop (i.toNat + 1))
    have hrl : rlen (n1, c1, rs1) = x1.length := by rw [hl1]; rfl
    have hd := d2 i.toNat _ q1
    have gi := good_iff (ts := ts) (i := i.toNat) (n := n1) (c := c1) (rs := rs1)
    obtain ⟨g, hg⟩ : ∃ g, g = good ts i.toNat (n1, c1, rs1) := ⟨_, rfl⟩
    rw [← hg] at hd gi
    obtain ⟨nb, hnb⟩ : ∃ b, b = nameB n1 := ⟨_, rfl⟩
    have hfr := (fidx_at ts i.toNat (n1, c1, rs1) 0 q1).2
    rw [Int.zero_add] at hfr
    have hfr : fidx ts n1 = ↑i.toNat ↔ mlook ml0 n1 = none := by
      rw [show fidx ts n1 = fidxN ts n1 0 from rfl, hfr]
      constructor
      · intro q
        cases hm : mlook ml0 n1 with
        | none => rfl
        | some v =>
          obtain ⟨j, t, hj, ht, e⟩ := (h5 n1).1 ⟨v, hm⟩
          exact absurd e (q j t (by omega) ht)
      · intro q j t' hj ht e
        obtain ⟨v, hv⟩ := (h5 n1).2 ⟨j, t', by omega, ht, e⟩
        rw [q] at hv; cases hv
    rw [← hnb, hfr] at gi
    have h66 := ok119 n1
    rw [← hnb] at h66
    have e8 : (i + 1).toNat = i.toNat + 1 := by omega
    have hK2 : (g = true) → ∀ (w : Int) (ml : List (List UInt8 × E)), w = rows + x1.length → ml = mset ml0 n1 (E.int i) → ∀ s1, Weak (hpF []) s1 ⟨[(19, .int (i + 1)), (18, .int zz), (17, .e (.sl x)), (4, .int w), (3, .mp 1), (2, .bool false), (1, .ref 0 0)], [.box [.e (.sl x)], .smap ml]⟩ → K s1 := fun e w ml hww hml s1 hw => by
      refine hK s1 (m - 1) _ (by omega) hw ⟨i + 1, _, zz, ml, by omega, hzz, by omega, by omega, by rw [e8]; omega, fun j t hj ht => ?_, fun n => ?_, rfl⟩
      · by_cases hji : (j : Int) < i
        · exact h4 j t hji ht
        · have : j = i.toNat := by omega
          subst this
          rw [q1] at ht
          cases ht
          rw [← hg]; exact e
      · rw [hml, mlook_mset]
        by_cases hn : n1 = n
        · rw [if_pos hn]
          exact ⟨fun _ => ⟨i.toNat, _, by omega, q1, hn⟩, fun _ => ⟨_, rfl⟩⟩
        · rw [if_neg hn, h5 n]
          constructor
          · rintro ⟨j, t, a, b, c⟩; exact ⟨j, t, by omega, b, c⟩
          · rintro ⟨j, t, a, b, c⟩
            refine ⟨j, t, ?_, b, c⟩
            by_cases hji : (j : Int) < i
            · exact hji
            · have : j = i.toNat := by omega
              subst this
              rw [q1] at b
              cases b
              exact absurd c hn
    clear hK h4 h5 hnb hfr hg d1 d2 d3
    cbv
    repeat' first | with_reducible rfl | with_reducible refine And.intro ?_ ?_ | ((with_reducible intro hcc); first | (cases hcc; done) | skip) | ((with_reducible show goC _ _ _ _ _ _ _ _); cbv) | ((with_reducible show goOps _ _ _ _ _); cbv) | ((with_reducible show goD _ _ _ _ _ _); cbv) | ((with_reducible show okWr _ _ = _); rfl) | ((with_reducible refine callK_eq hA hP ?_ ?_ ?_ (Wks.refl _) (fun _ _ => h66)); exact rfl; exact rfl; cbv) | ((with_reducible refine hA.row x _ _ ⟨hin, fun row hrow => ?_⟩); rw [e1] at hrow; subst hrow; cbv) | ((with_reducible refine hA.fin_pl _ _ _ ?_); cbv) | ((with_reducible refine hA.len _ _ _ _ _ fun z hz hb => ?_); cbv) | ((with_reducible refine hA.off _ _ _ _ fun b hb => ?_); cbv) | ((with_reducible refine hA.plus _ _ _ fun b hb => ?_); cbv) | ((with_reducible refine hA.st _ _ _ _ _ ⟨?_, fun ds hds => ?_⟩); rotate_left; cbv) | ((with_reducible refine hA.sapp _ _ _ ⟨?_, fun sl hsl => ?_⟩); rotate_left; cbv) | ((with_reducible refine hA.gb0 true _ ?_); cbv) | ((with_reducible refine hA.gb0 false _ ?_); cbv) | ((with_reducible refine hA.gb _ _ fun vb hvb => ?_); cbv) | ((with_reducible refine hA.mget _ _ _ _ ⟨fun mv hmv => ?_, fun hmv => ?_⟩) <;> cbv) | ((with_reducible refine hA.mset _ _ _ _ fun ml hml => ?_); cbv) | (simp only [hA.natLit, hA.natOf, hA.natCast]; cbv)
    all_goals try simp only [hA.add, hA.sub, hA.mul, hA.neg, hA.div, hA.mod, hA.mn, hA.mx, hA.eq, hA.lt, hA.le, hA.nat, hA.R, hA.lep, hA.ltp, hA.seq, inR, n_cast, Int.ofNat_eq_natCast, Option.getD_some, Option.getD_none] at *
    all_goals try (first
      | omega
      | (clear hK2 hd gi h66; simp at *; omega)
      | (clear hK2 hd gi h66; grind; done))
    all_goals try (
      have hf : g = false := (by
        rw [Bool.eq_false_iff]
        intro q
        obtain ⟨a1, a2, a3, _⟩ := gi.1 q
        clear hK2 hd gi h66
        first
          | (rw [a3] at hmv; cases hmv; done)
          | (grind; done)
          | (simp at *; done)
          | (simp at *; grind; done))
      rw [hd hf]
      done)
    have hpre : g = true ↔ ∀ r ∈ rs1, (r.length : Int) = c1 := by
      rw [gi]
      have : nb = true ∧ (1 ≤ c1 ∧ c1 ≤ 16) := by
        clear hK2 hd gi h66
        simp at *
        grind
      exact ⟨fun q => q.2.2.2, fun q => ⟨this.1, this.2, hmv, q⟩⟩
    clear gi h66
    refine hA.loopI (fun mm s => ∃ jj zj w : Int, 0 ≤ jj ∧ zj = x1.length ∧ mm + jj = zj ∧ w = rows + x1.length ∧ (∀ (k : Nat) r', (k : Int) < jj → rs1[k]? = some r' → (r'.length : Int) = c1) ∧
        s = ⟨[(60, .int jj), (59, .int zj), (58, .e (.sl x1)), (6, .ref 2 0), (19, .int i), (18, .int zz), (17, .e (.sl x)), (4, .int w), (3, .mp 1), (2, .bool false), (1, .ref 0 0)],
          [.box [.e (.sl x)], .smap ml, .box [.str n1, .int c1, .e (.sl x1)]]⟩) x1.length _
      (Weak.keep (env' := [(60, .int 0), (59, .int _), (58, .e (.sl x1)), (6, .ref 2 0), (19, .int i), (18, .int zz), (17, .e (.sl x)), (4, .int (rows + _)), (3, .mp 1), (2, .bool false), (1, .ref 0 0)]) ⟨rfl, rfl, rfl, rfl, rfl, rfl, rfl, rfl, rfl, rfl, rfl, trivial⟩)
      ⟨0, _, _, by omega, ?_, ?_, ?_, (fun k r' hk => by omega), rfl⟩ ?_
    · omega
    · omega
    · omega
    rintro mm s K3 ⟨jj, zj, w, j0, jz, j1, jw, j2, rfl⟩ hK3
    by_cases hjn : (0 : Int) ≤ jj ∧ jj < x1.length
    · obtain ⟨r1, e2, q2⟩ := row_at hx1 hjn
      obtain ⟨y1, hy1⟩ : ∃ y, y = r1.map vr := ⟨_, rfl⟩
      have e2 : x1.getD jj.toNat [] = [E.sl y1] := e2.trans (by rw [hy1])
      have hly : y1.length = r1.length := by rw [hy1]; simp
      have k1 : ¬ (r1.length : Int) = c1 → r = false := fun q => hd (by
        rw [Bool.eq_false_iff]
        intro q'
        exact q (hpre.1 q' r1 (List.mem_of_getElem? q2)))
      have k2 : (r1.length : Int) = c1 → ∀ s1, Weak (hpF []) s1 ⟨[(60, .int (jj + 1)), (59, .int zj), (58, .e (.sl x1)), (6, .ref 2 0), (19, .int i), (18, .int zz), (17, .e (.sl x)), (4, .int w), (3, .mp 1), (2, .bool false), (1, .ref 0 0)],
          [.box [.e (.sl x)], .smap ml, .box [.str n1, .int c1, .e (.sl x1)]]⟩ → K3 s1 := fun q s1 hw => by
        refine hK3 s1 (mm - 1) _ (by omega) hw ⟨jj + 1, zj, w, by omega, jz, by omega, jw, fun k r' hk hr' => ?_, rfl⟩
        by_cases hkj : (k : Int) < jj
        · exact j2 k r' hkj hr'
        · have : k = jj.toNat := by omega
          subst this
          rw [q2] at hr'
          cases hr'
          exact q
      clear hK3 hK2 hd hpre j2
      cbv
      repeat' first | with_reducible rfl | with_reducible refine And.intro ?_ ?_ | ((with_reducible intro hcc); first | (cases hcc; done) | skip) | ((with_reducible show goC _ _ _ _ _ _ _ _); cbv) | ((with_reducible show goOps _ _ _ _ _); cbv) | ((with_reducible show goD _ _ _ _ _ _); cbv) | ((with_reducible show okWr _ _ = _); rfl) | ((with_reducible refine hA.row x1 _ _ ⟨hjn, fun row hrow => ?_⟩); rw [e2] at hrow; subst hrow; cbv) | ((with_reducible refine hA.fin_pl _ _ _ ?_); cbv) | ((with_reducible refine hA.len _ _ _ _ _ fun z hz hb => ?_); cbv) | ((with_reducible refine hA.off _ _ _ _ fun b hb => ?_); cbv) | ((with_reducible refine hA.plus _ _ _ fun b hb => ?_); cbv) | ((with_reducible refine hA.st _ _ _ _ _ ⟨?_, fun ds hds => ?_⟩); rotate_left; cbv) | ((with_reducible refine hA.sapp _ _ _ ⟨?_, fun sl hsl => ?_⟩); rotate_left; cbv) | ((with_reducible refine hA.gb0 true _ ?_); cbv) | ((with_reducible refine hA.gb0 false _ ?_); cbv) | ((with_reducible refine hA.gb _ _ fun vb hvb => ?_); cbv) | ((with_reducible refine hA.mget _ _ _ _ ⟨fun mv hmv => ?_, fun hmv => ?_⟩) <;> cbv) | ((with_reducible refine hA.mset _ _ _ _ fun ml hml => ?_); cbv) | (simp only [hA.natLit, hA.natOf, hA.natCast]; cbv)
      all_goals try simp only [hA.add, hA.sub, hA.mul, hA.neg, hA.div, hA.mod, hA.mn, hA.mx, hA.eq, hA.lt, hA.le, hA.nat, hA.R, hA.lep, hA.ltp, hA.seq, inR, n_cast, Int.ofNat_eq_natCast, Option.getD_some, Option.getD_none] at *
      all_goals first
        | omega
        | (rw [k1 (by clear k1 k2 hx hx1 e1 e2 hy1 hml hmv; grind)]; done)
        | (exact k2 (by clear k1 k2 hx hx1 e1 e2 hy1 hml hmv; grind) _ (Weak.keep ⟨rfl, rfl, rfl, rfl, rfl, rfl, rfl, rfl, rfl, rfl, rfl, trivial⟩))
        | (clear k1 k2 hml hmv; simp at *; omega)
        | (clear k1 k2 hml hmv; grind; done)
        | (trace_state; fail)
    · have hgt : g = true := hpre.2 fun r' hr' => by
        obtain ⟨k, hk, e⟩ := List.getElem_of_mem hr'
        exact j2 k r' (by omega) (by rw [← e]; simp [hk])
      have hK4 := hK2 hgt
      clear hK3 hK2 hd hpre j2
      cbv
      repeat' first | with_reducible rfl | with_reducible refine And.intro ?_ ?_ | ((with_reducible intro hcc); first | (cases hcc; done) | skip) | ((with_reducible show goC _ _ _ _ _ _ _ _); cbv) | ((with_reducible show goOps _ _ _ _ _); cbv) | ((with_reducible show goD _ _ _ _ _ _); cbv) | ((with_reducible show okWr _ _ = _); rfl) | (exfalso; simp only [hA.lt, hA.sub, decide_eq_true_eq, decide_eq_false_iff_not, n_cast] at *; omega) | ((with_reducible refine hA.fin_pl _ _ _ ?_); cbv) | ((with_reducible refine hA.len _ _ _ _ _ fun z hz hb => ?_); cbv) | ((with_reducible refine hA.off _ _ _ _ fun b hb => ?_); cbv) | ((with_reducible refine hA.plus _ _ _ fun b hb => ?_); cbv) | ((with_reducible refine hA.st _ _ _ _ _ ⟨?_, fun ds hds => ?_⟩); rotate_left; cbv) | ((with_reducible refine hA.sapp _ _ _ ⟨?_, fun sl hsl => ?_⟩); rotate_left; cbv) | ((with_reducible refine hA.gb0 true _ ?_); cbv) | ((with_reducible refine hA.gb0 false _ ?_); cbv) | ((with_reducible refine hA.gb _ _ fun vb hvb => ?_); cbv) | ((with_reducible refine hA.mget _ _ _ _ ⟨fun mv hmv => ?_, fun hmv => ?_⟩) <;> cbv) | ((with_reducible refine hA.mset _ _ _ _ fun ml hml => ?_); cbv) | (simp only [hA.natLit, hA.natOf, hA.natCast]; cbv)
      all_goals try simp only [hA.add, hA.sub, hA.mul, hA.neg, hA.div, hA.mod, hA.mn, hA.mx, hA.eq, hA.lt, hA.le, hA.nat, hA.R, hA.lep, hA.ltp, hA.seq, inR, n_cast, Int.ofNat_eq_natCast, Option.getD_some, Option.getD_none] at *
      all_goals first
        | omega
        | (refine hK4 w ml jw hml _ (Weak.ren (l0 := []) [0, 1] (fun t => [(19, .int (i + 1)), (18, .int zz), (17, .e (.sl x)), (4, .int w), (3, .mp (t 1)), (2, .bool false), (1, .ref (t 0) 0)]) (fun t => [.box [.e (.sl x)], .smap ml]) rfl ⟨.inl rfl, .inl rfl, .inl rfl, .inl rfl, .inl rfl, .inl rfl, .inl rfl, trivial⟩ ⟨rfl, rfl, trivial⟩ ⟨fun t => rfl, rfl, fun t => rfl, by simp [O.lt, lts, D.lt]⟩))
        | (clear hK4 hml hmv; simp at *; omega)
        | (trace_state; fail)
  · have hd0 : ts.drop i.toNat = [] := by rw [List.drop_eq_nil_iff]; omega
    rw [hd0] at h3
    have h3 : rows + 0 = sumC rlen ts := h3
    have hr3 := d3 h50 fun j t ht => h4 j t (by have := (List.getElem?_eq_some_iff.1 ht).1; omega) ht
    clear hK h4 h5 d1 d2 d3
    cbv
    repeat' first | with_reducible rfl | with_reducible refine And.intro ?_ ?_ | ((with_reducible intro hcc); first | (cases hcc; done) | skip) | ((with_reducible show goC _ _ _ _ _ _ _ _); cbv) | ((with_reducible show goOps _ _ _ _ _); cbv) | ((with_reducible show goD _ _ _ _ _ _); cbv) | ((with_reducible show okWr _ _ = _); rfl) | (exfalso; simp only [hA.lt, hA.sub, decide_eq_true_eq, decide_eq_false_iff_not, n_cast] at *; omega) | ((with_reducible refine hA.fin_pl _ _ _ ?_); cbv) | ((with_reducible refine hA.len _ _ _ _ _ fun z hz hb => ?_); cbv) | ((with_reducible refine hA.off _ _ _ _ fun b hb => ?_); cbv) | ((with_reducible refine hA.plus _ _ _ fun b hb => ?_); cbv) | ((with_reducible refine hA.st _ _ _ _ _ ⟨?_, fun ds hds => ?_⟩); rotate_left; cbv) | ((with_reducible refine hA.sapp _ _ _ ⟨?_, fun sl hsl => ?_⟩); rotate_left; cbv) | ((with_reducible refine hA.gb0 true _ ?_); cbv) | ((with_reducible refine hA.gb0 false _ ?_); cbv) | ((with_reducible refine hA.gb _ _ fun vb hvb => ?_); cbv) | ((with_reducible refine hA.mget _ _ _ _ ⟨fun mv hmv => ?_, fun hmv => ?_⟩) <;> cbv) | ((with_reducible refine hA.mset _ _ _ _ fun ml hml => ?_); cbv) | (simp only [hA.natLit, hA.natOf, hA.natCast]; cbv)
    all_goals try simp only [hA.add, hA.sub, hA.mul, hA.neg, hA.div, hA.mod, hA.mn, hA.mx, hA.eq, hA.lt, hA.le, hA.nat, hA.R, hA.lep, hA.ltp, hA.seq, inR, n_cast, Int.ofNat_eq_natCast, Option.getD_some, Option.getD_none] at *
    all_goals first
      | (rw [hr3, ← h3, Int.add_zero]; done)
      | omega
      | (trace_state; fail))
end Go.Proofs.Ytfplalbognalkaa.Ab
/- Plans: in order, by both; the ranges of widths. -/
namespace Go.Proofs.Ytfplalbognalkaa.Ab
open Go
theorem frN_le (ns : List Pd) : ∀ (n : Nat) (i : Int), -1 ≤ i → frN ns n i ≤ i
  | 0, i, h => by simp only [frN]; omega
  | n + 1, i, h => by
    unfold frN
    split
    · exact chain_le _ _ h fun j h1 h2 => frN_le ns n j (by omega)
    · omega
theorem frN_fuel (ns : List Pd) : ∀ (n m : Nat) (i : Int), 0 ≤ i → i < n → i < m → frN ns n i = frN ns m i
  | 0, _, _, _, h, _ => by omega
  | _, 0, _, _, _, h => by omega
  | n + 1, m + 1, i, h0, h1, h2 => by
    unfold frN
    split
    · exact chain_congr _ _ fun j h3 h4 => ⟨frN_fuel ns n m j h3 (by omega) (by omega), frN_le ns n j (by omega)⟩
    · rfl
/-- Where the stretch of a node begins; -1: not in order. -/
def fr (ns : List Pd) (i : Nat) : Int := frN ns (i + 1) i
theorem fr_le (ns : List Pd) (i : Nat) : fr ns i ≤ i := frN_le ns _ _ (by omega)
theorem fr_eq (ns : List Pd) (i : Nat) : fr ns i = if formP (ns.getD i default) = true then chain (fun j => fr ns j.toNat) (kidsP (ns.getD i default)) i else -1 := by
  rw [fr, frN, Int.toNat_natCast]
  split
  · exact chain_congr _ _ fun j h1 h2 => ⟨by
      rw [fr, show ((j.toNat : Nat) : Int) = j by omega]
      exact frN_fuel ns _ _ j h1 (by omega) (by omega), frN_le ns i j (by omega)⟩
  · rfl
theorem fr_kids {ns : List Pd} {i : Nat} (h : 0 ≤ fr ns i) : formP (ns.getD i default) = true ∧ (∀ k ∈ kidsP (ns.getD i default), 0 ≤ k ∧ k < i ∧ 0 ≤ fr ns k.toNat) ∧ ∀ j : Int, fr ns i ≤ j → j < i → ∃ k ∈ kidsP (ns.getD i default), fr ns k.toNat ≤ j ∧ j ≤ k := by
  have e := fr_eq ns i
  split at e
  · rename_i hf
    rw [e] at h
    obtain ⟨q1, q2⟩ := chain_mem (f := fun j => fr ns j.toNat) (fun j hj => by have := fr_le ns j.toNat; omega) _ _ h
    rw [← e] at q2
    exact ⟨hf, q1, q2⟩
  · omega
theorem fr_all {ns : List Pd} : ∀ (n i : Nat), i < n → 0 ≤ fr ns i → ∀ j : Nat, fr ns i ≤ j → j ≤ i → 0 ≤ fr ns j
  | 0, _, h, _, _, _, _ => by omega
  | n + 1, i, hn, h, j, h1, h2 => by
    rcases Nat.lt_or_ge j i with hji | hji
    · obtain ⟨_, q1, q2⟩ := fr_kids h
      obtain ⟨k, k1, k2, k3⟩ := q2 j h1 (by omega)
      obtain ⟨a, b, c⟩ := q1 k k1
      exact fr_all n k.toNat (by omega) c j k2 (by omega)
    · have : j = i := by omega
      subst this
      exact h
/-- The nodes are in order. -/
def ordOk (ns : List Pd) : Bool := decide (1 ≤ ns.length ∧ ns.length ≤ 2000) && decide (fr ns (ns.length - 1) = 0)
theorem ord_all {ns : List Pd} (h : ordOk ns = true) : ∀ j : Nat, j < ns.length → 0 ≤ fr ns j := fun j hj => by
  simp only [ordOk, Bool.and_eq_true, decide_eq_true_eq] at h
  exact fr_all ns.length (ns.length - 1) (by omega) (by omega) j (by omega) (by omega)
theorem fr_in {ns : List Pd} {i : Nat} (h : 0 ≤ fr ns i) : (1 ≤ (ns.getD i default).K ∧ (ns.getD i default).K ≤ 10) ∧ (hasL (ns.getD i default).K = true → 0 ≤ (ns.getD i default).L ∧ (ns.getD i default).L < i) ∧ (hasR (ns.getD i default).K = true → 0 ≤ (ns.getD i default).R ∧ (ns.getD i default).R < i) := by
  obtain ⟨h1, h2, _⟩ := fr_kids h
  simp only [formP, Bool.and_eq_true, decide_eq_true_eq] at h1
  refine ⟨h1.1, fun a => ?_, fun a => ?_⟩
  · obtain ⟨x, y, _⟩ := h2 (ns.getD i default).L (List.mem_append.2 (.inr (by rw [if_pos a]; exact List.mem_singleton.2 rfl))); exact ⟨x, y⟩
  · obtain ⟨x, y, _⟩ := h2 (ns.getD i default).R (List.mem_append.2 (.inl (by rw [if_pos a]; exact List.mem_singleton.2 rfl))); exact ⟨x, y⟩
theorem ord_in {ns : List Pd} (h : ordOk ns = true) : InP ns := fun j h0 h1 => by
  have := fr_in (ord_all h j.toNat (by omega))
  rw [show ((j.toNat : Nat) : Int) = j by omega] at this
  exact this
theorem l3F_ord {ns : List Pd} (h : 1 ≤ ns.length ∧ ns.length ≤ 2000) : ordOk ns = decide (l3F ns ns.length ((ns.length : Int) - 1) = 0) := by
  rw [← frN_eq ns _ _ (by omega), ordOk, decide_eq_true h, Bool.true_and, fr, show ns.length - 1 + 1 = ns.length by omega, show ((ns.length - 1 : Nat) : Int) = (ns.length : Int) - 1 by omega]
/-- The width of a valid plan; -1: not valid. -/
def planW (ns : List Pd) (ts : List Tb) : Int := if dbOk ts = true ∧ ordOk ns = true then wS ns ts.length (colsOf ts) ns.length ((ns.length : Int) - 1) 0 else -1
theorem ndS_rng {d : Pd} {cols : Int → Int} {env l r : Int} (h : 0 ≤ ndS d cols env l r) : env + ndS d cols env l r ≤ 200 := by
  unfold ndS at h ⊢
  simp only at h ⊢
  repeat' split at h
  all_goals first | omega | skip
  all_goals simp_all
  all_goals omega
theorem wS_rng {ns : List Pd} {nt : Int} {cols : Int → Int} {n : Nat} {i env : Int} (h : 0 ≤ wS ns nt cols n i env) : env + wS ns nt cols n i env ≤ 200 := by
  cases n with
  | zero => simp [wS] at h
  | succ n =>
    have key : ∀ (d : Pd) (u : Bool) (l r v : Int), (v = if u = false then -1 else if l < 0 then -1 else if r < 0 then -1 else ndS d cols env l r) → 0 ≤ v → env + v ≤ 200 := fun d u l r v e h => by
      subst e
      split at h
      · omega
      · rename_i h1
        split at h
        · omega
        · rename_i h2
          split at h
          · omega
          · rename_i h3
            rw [if_neg h1, if_neg h2, if_neg h3]
            exact ndS_rng h
    simp only [wS] at h ⊢
    exact key _ _ _ _ _ rfl h
end Go.Proofs.Ytfplalbognalkaa.Ab
/- Plans: the tree of operators that the program builds. -/
namespace Go.Proofs.Ytfplalbognalkaa.Ab
open Go
inductive Ot where
  | unit
  | scan (t : Tb)
  | filter (ex : List (Int × Int)) (l : Ot)
  | project (exs : List (List (Int × Int))) (l : Ot)
  | cross (l r : Ot) (dep : Bool)
  | mark (ex : List (Int × Int)) (l r : Ot)
  | agg (m : Int) (ex : List (Int × Int)) (l r : Ot)
  | distinct (l : Ot)
  | union (l r : Ot)
def Ot.T : Ot → TypeId
  | .unit => 228
  | .scan _ => 230
  | .filter _ _ => 232
  | .project _ _ => 234
  | .cross _ _ _ => 236
  | .mark _ _ _ => 238
  | .agg _ _ _ _ => 240
  | .distinct _ => 242
  | .union _ _ => 244
mutual
/-- The cells of an operator. -/
def Ot.cs : Ot → List E
  | .unit => []
  | .scan t => tbr t
  | .filter ex l => [.sl (ex.map orow), l.E]
  | .project exs l => [.sl (exs.map orr), l.E]
  | .cross l r dep => [l.E, r.E, .bool dep]
  | .mark ex l r => [.sl (ex.map orow), l.E, r.E]
  | .agg m ex l r => [.int m, .sl (ex.map orow), l.E, r.E]
  | .distinct l => [l.E]
  | .union l r => [l.E, r.E]
def Ot.E : Ot → E
  | .unit => .ia 228 []
  | .scan t => .ia 230 (tbr t)
  | .filter ex l => .ia 232 [.sl (ex.map orow), l.E]
  | .project exs l => .ia 234 [.sl (exs.map orr), l.E]
  | .cross l r dep => .ia 236 [l.E, r.E, .bool dep]
  | .mark ex l r => .ia 238 [.sl (ex.map orow), l.E, r.E]
  | .agg m ex l r => .ia 240 [.int m, .sl (ex.map orow), l.E, r.E]
  | .distinct l => .ia 242 [l.E]
  | .union l r => .ia 244 [l.E, r.E]
end
theorem Ot.E_eq (o : Ot) : o.E = .ia o.T o.cs := by cases o <;> simp [Ot.E, Ot.T, Ot.cs]
def Ot.w : Ot → Int
  | .unit => 0
  | .scan t => t.2.1
  | .filter _ l => l.w
  | .project exs _ => exs.length
  | .cross l r _ => l.w + r.w
  | .mark _ l _ => l.w + 1
  | .agg _ _ l _ => l.w + 1
  | .distinct l => l.w
  | .union l _ => l.w
/-- All widths inside are small. -/
def Ot.sm : Ot → Prop
  | .unit => True
  | .scan t => 0 ≤ t.2.1 ∧ t.2.1 ≤ 1000
  | .filter _ l => l.sm
  | .project exs l => exs.length ≤ 1048576 ∧ l.sm
  | .cross l r _ => (0 ≤ l.w ∧ l.w ≤ 1000 ∧ 0 ≤ r.w ∧ r.w ≤ 1000) ∧ l.sm ∧ r.sm
  | .mark _ l r => (0 ≤ l.w ∧ l.w ≤ 1000) ∧ l.sm ∧ r.sm
  | .agg _ _ l r => (0 ≤ l.w ∧ l.w ≤ 1000) ∧ l.sm ∧ r.sm
  | .distinct l => l.sm
  | .union l r => l.sm ∧ r.sm
/-- A node over the operators of its kids. -/
def ndO (d : Pd) (ts : List Tb) (env : Int) (l r : Ot) : Option Ot :=
  if d.K = 1 then some .unit
  else if d.K = 2 then (if d.T < 0 ∨ (ts.length : Int) ≤ d.T then none else some (.scan (ts.getD d.T.toNat ([], 0, []))))
  else if d.K = 3 then (if exOk d.Ex (env + l.w) = true then some (.filter d.Ex l) else none)
  else if d.K = 4 then (if (d.Exs.any fun e => !exOk e (env + l.w)) = false then some (.project d.Exs l) else none)
  else if d.K = 5 ∨ d.K = 6 then some (.cross l r (decide (d.K = 6)))
  else if d.K = 7 then (if exOk d.Ex (env + l.w + r.w) = true then some (.mark d.Ex l r) else none)
  else if d.K = 8 then (if d.M = 1 ∨ exOk d.Ex (env + l.w + r.w) = true then some (.agg d.M d.Ex l r) else none)
  else if d.K = 9 then some (.distinct l)
  else if d.K = 10 then (if l.w = r.w then some (.union l r) else none)
  else none
def mkO (ns : List Pd) (ts : List Tb) : Nat → Int → Int → Option Ot
  | 0, _, _ => none
  | n + 1, i, env =>
    let d := ns.getD i.toNat default
    if usedI d = false then none else
    match (if hasL d.K then mkO ns ts n d.L env else some .unit) with
    | none => none
    | some l => match (if hasR d.K then mkO ns ts n d.R (if depK d.K then env + l.w else env) else some .unit) with
      | none => none
      | some r => match ndO d ts env l r with
        | none => none
        | some o => if o.w + env > 200 then none else some o
theorem nd_w (d : Pd) (ts : List Tb) (env : Int) (l r : Ot) : (match ndO d ts env l r with | none => none | some o => if o.w + env > 200 then none else some o.w) = ndI d ts.length (colsOf ts) env l.w r.w := by
  have key : (ndO d ts env l r).map Ot.w = (if d.K = 1 then some 0
    else if d.K = 2 then (if d.T < 0 ∨ (ts.length : Int) ≤ d.T then none else some (colsOf ts d.T))
    else if d.K = 3 then (if exOk d.Ex (env + l.w) = true then some l.w else none)
    else if d.K = 4 then (if (d.Exs.any fun e => !exOk e (env + l.w)) = false then some (d.Exs.length : Int) else none)
    else if d.K = 5 ∨ d.K = 6 then some (l.w + r.w)
    else if d.K = 7 then (if exOk d.Ex (env + l.w + r.w) = true then some (l.w + 1) else none)
    else if d.K = 8 then (if d.M = 1 ∨ exOk d.Ex (env + l.w + r.w) = true then some (l.w + 1) else none)
    else if d.K = 9 then some l.w
    else if d.K = 10 then (if l.w = r.w then some l.w else none)
    else none) := by
    unfold ndO
    repeat' split
    all_goals rfl
  rw [ndI, ← key]
  cases ndO d ts env l r <;> rfl
theorem mk_w (ns : List Pd) (ts : List Tb) : ∀ (n : Nat) (i env : Int), (mkO ns ts n i env).map Ot.w = wI ns ts.length (colsOf ts) n i env
  | 0, _, _ => rfl
  | n + 1, i, env => by
    have ih := mk_w ns ts n
    obtain ⟨d, hd⟩ : ∃ d, d = ns.getD i.toNat default := ⟨_, rfl⟩
    simp only [mkO, wI]
    rw [← hd]
    cases hu : usedI d
    · simp
    simp only [Bool.true_eq_false, if_false]
    have e1 : (if hasL d.K = true then wI ns ts.length (colsOf ts) n d.L env else some 0) = (if hasL d.K = true then mkO ns ts n d.L env else some .unit).map Ot.w := by
      cases hasL d.K <;> simp [ih, Ot.w]
    rw [e1]
    cases hl : (if hasL d.K = true then mkO ns ts n d.L env else some Ot.unit) with
    | none => simp
    | some l =>
      simp only [Option.map_some]
      have e2 : (if hasR d.K = true then wI ns ts.length (colsOf ts) n d.R (if depK d.K then env + l.w else env) else some 0) = (if hasR d.K = true then mkO ns ts n d.R (if depK d.K then env + l.w else env) else some .unit).map Ot.w := by
        cases hasR d.K <;> simp [ih, Ot.w]
      rw [e2]
      cases hr : (if hasR d.K = true then mkO ns ts n d.R (if depK d.K then env + l.w else env) else some Ot.unit) with
      | none => simp
      | some r =>
        simp only [Option.map_some]
        rw [← nd_w]
        cases ndO d ts env l r with
        | none => rfl
        | some o =>
          simp only
          split <;> rfl
end Go.Proofs.Ytfplalbognalkaa.Ab
/- The code of helpers over expressions. -/
namespace Go.Proofs.Ytfplalbognalkaa.Ab
open Go
def c173 : F := ⟨27, [(.tmp 4)], (.seq (.reg [⟨(some 4), none, (.mov (.c (.int 0)))⟩]) (.seq (.reg [⟨(some 6), none, (.mov (.s 1))⟩, ⟨(some 7), none, (.mov (.s 0))⟩, ⟨(some 8), none, (.lenl (.s 7))⟩, ⟨(some 9), none, (.bin .sub (.s 6) (.s 8))⟩, ⟨(some 1), none, (.mov (.s 9))⟩]) (.seq (.seq (.reg [⟨(some 10), none, (.mov (.s 1))⟩, ⟨(some 11), none, (.bin .lss (.s 10) (.c (.int 0)))⟩]) (.cond (.s 11) (.seq (.reg [⟨(some 4), none, (.mov (.c (.int (-1))))⟩]) .ret) .skip)) (.seq (.seq (.reg [⟨(some 5), none, (.mov (.c (.int 0)))⟩]) (.block 0 (.loop (.seq (.seq (.reg [⟨(some 12), none, (.mov (.s 5))⟩, ⟨(some 13), none, (.mov (.s 0))⟩, ⟨(some 14), none, (.lenl (.s 13))⟩, ⟨(some 15), none, (.bin .lss (.s 12) (.s 14))⟩]) (.cond (.s 15) .skip (.exit 0))) (.seq (.block 1 (.seq (.reg [⟨(some 18), none, (.mov (.s 0))⟩, ⟨(some 19), none, (.mov (.s 5))⟩, ⟨(some 20), none, (.iadr none 1 (.s 18) (.s 19))⟩, ⟨(some 21), none, (.load false 1 (.s 20))⟩, ⟨(some 22), none, (.mov (.s 1))⟩, ⟨(some 23), none, (.call 172 [(.s 21), (.s 22)])⟩, ⟨(some 1), none, (.mov (.s 23))⟩]) (.seq (.reg [⟨(some 24), none, (.mov (.s 1))⟩, ⟨(some 25), none, (.bin .lss (.s 24) (.c (.int 0)))⟩]) (.cond (.s 25) (.seq (.reg [⟨(some 4), none, (.mov (.c (.int (-1))))⟩]) .ret) .skip)))) (.reg [⟨(some 16), none, (.mov (.s 5))⟩, ⟨(some 17), none, (.bin .add (.s 16) (.c (.int 1)))⟩, ⟨(some 5), none, (.mov (.s 17))⟩])))))) (.seq (.reg [⟨(some 26), none, (.mov (.s 1))⟩, ⟨(some 4), none, (.mov (.s 26))⟩]) .ret)))))⟩
theorem p173 : prepF Try.prog 173 = some c173 := by kernel_rfl
def c177 : F := ⟨23, [(.tmp 2)], (.seq (.reg [⟨(some 2), none, (.mov (.c .zs))⟩]) (.seq (.reg [⟨(some 5), none, (.mov (.s 0))⟩, ⟨(some 6), none, (.lenl (.s 5))⟩, ⟨(some 7), none, (.mks [(.e (.sl []))] (.s 6))⟩, ⟨(some 3), none, (.mov (.s 7))⟩]) (.seq (.seq (.reg [⟨(some 4), none, (.mov (.c (.int 0)))⟩]) (.block 0 (.loop (.seq (.seq (.reg [⟨(some 8), none, (.mov (.s 4))⟩, ⟨(some 9), none, (.mov (.s 0))⟩, ⟨(some 10), none, (.lenl (.s 9))⟩, ⟨(some 11), none, (.bin .lss (.s 8) (.s 10))⟩]) (.cond (.s 11) .skip (.exit 0))) (.seq (.block 1 (.reg [⟨(some 14), none, (.mov (.s 3))⟩, ⟨(some 15), none, (.mov (.s 4))⟩, ⟨(some 16), none, (.mov (.s 0))⟩, ⟨(some 17), none, (.mov (.s 4))⟩, ⟨(some 18), none, (.iadr none 1 (.s 16) (.s 17))⟩, ⟨(some 19), none, (.load false 1 (.s 18))⟩, ⟨(some 20), none, (.call 176 [(.s 19)])⟩, ⟨(some 21), none, (.iadr none 1 (.s 14) (.s 15))⟩, ⟨none, none, (.store false 1 (.s 21) (.s 20))⟩])) (.reg [⟨(some 12), none, (.mov (.s 4))⟩, ⟨(some 13), none, (.bin .add (.s 12) (.c (.int 1)))⟩, ⟨(some 4), none, (.mov (.s 13))⟩])))))) (.seq (.reg [⟨(some 22), none, (.mov (.s 3))⟩, ⟨(some 2), none, (.mov (.s 22))⟩]) .ret))))⟩
theorem p177 : prepF Try.prog 177 = some c177 := by kernel_rfl
def c182 : F := ⟨9, [(.tmp 4)], (.seq (.reg [⟨(some 4), none, (.mov (.c (.bool false)))⟩]) (.seq (.reg [⟨(some 5), none, (.mov (.s 0))⟩, ⟨(some 6), none, (.mov (.s 1))⟩, ⟨(some 7), none, (.call 196 [(.s 5), (.s 6)])⟩, ⟨(some 8), none, (.bin .geq (.s 7) (.c (.int 0)))⟩, ⟨(some 4), none, (.mov (.s 8))⟩]) .ret))⟩
theorem p182 : prepF Try.prog 182 = some c182 := by kernel_rfl
def c185 : F := ⟨27, [(.tmp 4)], (.seq (.reg [⟨(some 4), none, (.mov (.c (.bool false)))⟩]) (.seq (.seq (.reg [⟨(some 6), none, (.mov (.s 0))⟩, ⟨(some 7), none, (.lenl (.s 6))⟩, ⟨(some 8), none, (.mov (.s 1))⟩, ⟨(some 9), none, (.lenl (.s 8))⟩, ⟨(some 10), none, (.bin .neq (.s 7) (.s 9))⟩]) (.cond (.s 10) (.seq (.reg [⟨(some 4), none, (.mov (.c (.bool false)))⟩]) .ret) .skip)) (.seq (.seq (.reg [⟨(some 5), none, (.mov (.c (.int 0)))⟩]) (.block 0 (.loop (.seq (.seq (.reg [⟨(some 11), none, (.mov (.s 5))⟩, ⟨(some 12), none, (.mov (.s 0))⟩, ⟨(some 13), none, (.lenl (.s 12))⟩, ⟨(some 14), none, (.bin .lss (.s 11) (.s 13))⟩]) (.cond (.s 14) .skip (.exit 0))) (.seq (.block 1 (.seq (.dreg [⟨⟨(some 17), none, (.mov (.s 0))⟩, [], [0]⟩, ⟨⟨(some 18), none, (.mov (.s 5))⟩, [0], [5]⟩, ⟨⟨(some 19), none, (.iadr none 1 (.s 17) (.s 18))⟩, [], [17, 18]⟩, ⟨⟨(some 20), none, (.load false 1 (.s 19))⟩, [], [19]⟩, ⟨⟨(some 21), none, (.mov (.s 1))⟩, [0, 1, 2, 3], [1]⟩, ⟨⟨(some 22), none, (.mov (.s 5))⟩, [0, 1, 2, 3, 4], [5]⟩, ⟨⟨(some 23), none, (.iadr none 1 (.s 21) (.s 22))⟩, [0, 1, 2, 3], [21, 22]⟩, ⟨⟨(some 24), none, (.load false 1 (.s 23))⟩, [0, 1, 2, 3], [23]⟩, ⟨⟨(some 25), none, (.call 184 [(.s 20), (.s 24)])⟩, [], [20, 24]⟩, ⟨⟨(some 26), none, (.un .not (.s 25))⟩, [], [25]⟩]) (.cond (.s 26) (.seq (.reg [⟨(some 4), none, (.mov (.c (.bool false)))⟩]) .ret) .skip))) (.reg [⟨(some 15), none, (.mov (.s 5))⟩, ⟨(some 16), none, (.bin .add (.s 15) (.c (.int 1)))⟩, ⟨(some 5), none, (.mov (.s 16))⟩])))))) (.seq (.reg [⟨(some 4), none, (.mov (.c (.bool true)))⟩]) .ret))))⟩
theorem p185 : prepF Try.prog 185 = some c185 := by kernel_rfl
def c196 : F := ⟨19, [(.tmp 4)], (.seq (.reg [⟨(some 4), none, (.mov (.c (.int 0)))⟩]) (.seq (.seq (.reg [⟨(some 6), none, (.mov (.s 0))⟩, ⟨(some 7), none, (.lenl (.s 6))⟩, ⟨(some 8), none, (.mov (.c (.int 0)))⟩]) (.block 0 (.loop (.seq (.reg [⟨(some 9), none, (.bin .lss (.s 8) (.s 7))⟩]) (.seq (.cond (.s 9) .skip (.exit 0)) (.seq (.block 1 (.seq (.reg [⟨(some 10), none, (.mov (.s 8))⟩, ⟨(some 5), none, (.mov (.s 10))⟩]) (.seq (.reg [⟨(some 11), none, (.mov (.s 1))⟩, ⟨(some 12), none, (.mov (.s 0))⟩, ⟨(some 13), none, (.mov (.s 5))⟩, ⟨(some 14), none, (.iadr none 1 (.s 12) (.s 13))⟩, ⟨(some 15), none, (.load false 1 (.s 14))⟩, ⟨(some 16), none, (.callv (.s 11) [(.s 15)])⟩]) (.cond (.s 16) (.seq (.reg [⟨(some 17), none, (.mov (.s 5))⟩, ⟨(some 4), none, (.mov (.s 17))⟩]) .ret) .skip)))) (.reg [⟨(some 18), none, (.bin .add (.s 8) (.c (.int 1)))⟩, ⟨(some 8), none, (.mov (.s 18))⟩]))))))) (.seq (.reg [⟨(some 4), none, (.mov (.c (.int (-1))))⟩]) .ret)))⟩
theorem p196 : prepF Try.prog 196 = some c196 := by kernel_rfl
end Go.Proofs.Ytfplalbognalkaa.Ab
/- The code of what PlanOk reaches. -/
namespace Go.Proofs.Ytfplalbognalkaa.Ab
open Go
def c7 : F := ⟨58, [(.tmp 4)], (.seq (.reg [⟨(some 2), none, (.box (.s 0))⟩, ⟨(some 3), none, (.box (.s 1))⟩, ⟨(some 4), none, (.mov (.c (.bool false)))⟩]) (.seq (.reg [⟨(some 5), none, (.mov (.c (.int 1048576)))⟩]) (.seq (.reg [⟨(some 12), none, (.load true 1 (.s 2))⟩, ⟨(some 13), none, (.mov (.s 5))⟩, ⟨(some 14), none, (.call 35 [(.s 12), (.s 13)])⟩, ⟨(some 5), none, (.mov (.s 14))⟩]) (.seq (.seq (.reg [⟨(some 15), none, (.mov (.s 5))⟩, ⟨(some 16), none, (.bin .lss (.s 15) (.c (.int 0)))⟩]) (.cond (.s 16) (.seq (.reg [⟨(some 4), none, (.mov (.c (.bool true)))⟩]) .ret) .skip)) (.seq (.reg [⟨(some 17), none, (.load true 1 (.s 3))⟩, ⟨(some 18), none, (.mov (.s 5))⟩, ⟨(some 19), none, (.call 28 [(.s 17), (.s 18)])⟩, ⟨(some 5), none, (.mov (.s 19))⟩]) (.seq (.seq (.reg [⟨(some 20), none, (.mov (.s 5))⟩, ⟨(some 21), none, (.bin .lss (.s 20) (.c (.int 0)))⟩]) (.cond (.s 21) (.seq (.reg [⟨(some 4), none, (.mov (.c (.bool true)))⟩]) .ret) .skip)) (.seq (.dreg [⟨⟨(some 23), none, (.load true 1 (.s 2))⟩, [], [2]⟩, ⟨⟨(some 24), none, (.call 37 [(.s 23)])⟩, [], [23]⟩, ⟨⟨(some 25), none, (.load true 1 (.s 3))⟩, [0, 1], [3]⟩, ⟨⟨(some 26), none, (.call 31 [(.s 25)])⟩, [], [25]⟩, ⟨⟨(some 27), none, (.call 36 [(.s 24), (.s 26)])⟩, [], [24, 26]⟩, ⟨⟨(some 22), none, (.mov (.s 27))⟩, [], [27]⟩, ⟨⟨(some 28), none, (.ext 0 (.s 22))⟩, [], [22]⟩, ⟨⟨(some 29), none, (.ext 1 (.s 22))⟩, [6], [22]⟩, ⟨⟨(some 6), none, (.mov (.s 28))⟩, [7], [28]⟩, ⟨⟨(some 7), none, (.mov (.s 29))⟩, [], [29]⟩]) (.seq (.reg [⟨(some 30), none, (.load true 1 (.s 2))⟩, ⟨(some 31), none, (.call 37 [(.s 30)])⟩, ⟨(some 8), none, (.alloc [(.e (.sl []))])⟩, ⟨none, none, (.store true 1 (.s 8) (.s 31))⟩]) (.seq (.reg [⟨(some 32), none, (.load true 1 (.s 3))⟩, ⟨(some 33), none, (.call 31 [(.s 32)])⟩, ⟨(some 9), none, (.alloc [(.e (.sl []))])⟩, ⟨none, none, (.store true 1 (.s 9) (.s 33))⟩]) (.seq (.reg [⟨(some 35), none, (.load true 1 (.s 8))⟩, ⟨(some 36), none, (.load true 1 (.s 9))⟩, ⟨(some 37), none, (.call 38 [(.s 35), (.s 36)])⟩, ⟨(some 34), none, (.mov (.s 37))⟩, ⟨(some 38), none, (.ext 0 (.s 34))⟩, ⟨(some 39), none, (.ext 1 (.s 34))⟩, ⟨(some 10), none, (.mov (.s 38))⟩, ⟨(some 11), none, (.mov (.s 39))⟩]) (.seq (.seq (.reg [⟨(some 40), none, (.mov (.s 10))⟩, ⟨(some 41), none, (.mov (.s 6))⟩, ⟨(some 42), none, (.bin .neq (.s 40) (.s 41))⟩, ⟨(some 43), none, (.mov (.s 42))⟩, ⟨(some 44), (some (43, false)), (.mov (.s 11))⟩, ⟨(some 45), (some (43, false)), (.mov (.s 7))⟩, ⟨(some 46), (some (43, false)), (.binb .neq (.s 44) (.s 45))⟩, ⟨(some 47), none, (.pick (.s 43) (.c (.bool true)) (.s 46))⟩]) (.cond (.s 47) (.seq (.reg [⟨(some 4), none, (.mov (.c (.bool false)))⟩]) .ret) .skip)) (.seq (.seq (.dreg [⟨⟨(some 48), none, (.load true 1 (.s 8))⟩, [], [8]⟩, ⟨⟨(some 49), none, (.load true 1 (.s 2))⟩, [0], [2]⟩, ⟨⟨(some 50), none, (.call 37 [(.s 49)])⟩, [0], [49]⟩, ⟨⟨(some 51), none, (.call 39 [(.s 48), (.s 50)])⟩, [], [48, 50]⟩, ⟨⟨(some 52), none, (.un .not (.s 51))⟩, [], [51]⟩]) (.cond (.s 52) (.seq (.reg [⟨(some 4), none, (.mov (.c (.bool false)))⟩]) .ret) .skip)) (.seq (.seq (.dreg [⟨⟨(some 53), none, (.load true 1 (.s 9))⟩, [], [9]⟩, ⟨⟨(some 54), none, (.load true 1 (.s 3))⟩, [0], [3]⟩, ⟨⟨(some 55), none, (.call 31 [(.s 54)])⟩, [0], [54]⟩, ⟨⟨(some 56), none, (.call 34 [(.s 53), (.s 55)])⟩, [], [53, 55]⟩, ⟨⟨(some 57), none, (.un .not (.s 56))⟩, [], [56]⟩]) (.cond (.s 57) (.seq (.reg [⟨(some 4), none, (.mov (.c (.bool false)))⟩]) .ret) .skip)) (.seq (.reg [⟨(some 4), none, (.mov (.c (.bool true)))⟩]) .ret))))))))))))))⟩
theorem p7 : prepF Try.prog 7 = some c7 := by kernel_rfl
def c35 : F := ⟨12, [(.tmp 4)], (.seq (.reg [⟨(some 2), none, (.box (.s 0))⟩, ⟨(some 4), none, (.mov (.c (.int 0)))⟩]) (.seq (.reg [⟨(some 5), none, (.fadr 0 (.s 2))⟩, ⟨(some 6), none, (.load false 1 (.s 5))⟩, ⟨(some 7), none, (.mov (.s 1))⟩, ⟨(some 8), none, (.call 80 [(.s 6), (.s 7)])⟩, ⟨(some 1), none, (.mov (.s 8))⟩]) (.seq (.seq (.reg [⟨(some 9), none, (.mov (.s 1))⟩, ⟨(some 10), none, (.bin .lss (.s 9) (.c (.int 0)))⟩]) (.cond (.s 10) (.seq (.reg [⟨(some 4), none, (.mov (.c (.int (-1))))⟩]) .ret) .skip)) (.seq (.reg [⟨(some 11), none, (.mov (.s 1))⟩, ⟨(some 4), none, (.mov (.s 11))⟩]) .ret))))⟩
theorem p35 : prepF Try.prog 35 = some c35 := by kernel_rfl
def c36 : F := ⟨38, [(.tmp 4), (.tmp 5)], (.seq (.reg [⟨(some 2), none, (.box (.s 0))⟩, ⟨(some 3), none, (.box (.s 1))⟩, ⟨(some 4), none, (.mov (.c (.int 0)))⟩, ⟨(some 5), none, (.mov (.c (.bool false)))⟩]) (.seq (.reg [⟨(some 8), none, (.fadr 0 (.s 2))⟩, ⟨(some 9), none, (.load false 1 (.s 8))⟩, ⟨(some 10), none, (.lenl (.s 9))⟩, ⟨(some 6), none, (.mov (.s 10))⟩]) (.seq (.seq (.reg [⟨(some 11), none, (.load true 1 (.s 3))⟩, ⟨(some 12), none, (.call 73 [(.s 11)])⟩, ⟨(some 13), none, (.un .not (.s 12))⟩, ⟨(some 14), none, (.mov (.s 13))⟩, ⟨(some 15), (some (14, false)), (.mov (.s 6))⟩, ⟨(some 16), (some (14, false)), (.bin .lss (.s 15) (.c (.int 1)))⟩, ⟨(some 17), none, (.pick (.s 14) (.c (.bool true)) (.s 16))⟩, ⟨(some 18), none, (.mov (.s 17))⟩, ⟨(some 19), (some (18, false)), (.mov (.s 6))⟩, ⟨(some 20), (some (18, false)), (.bin .gtr (.s 19) (.c (.int 2000)))⟩, ⟨(some 21), none, (.pick (.s 18) (.c (.bool true)) (.s 20))⟩, ⟨(some 22), none, (.mov (.s 21))⟩, ⟨(some 23), (some (22, false)), (.fadr 0 (.s 2))⟩, ⟨(some 24), (some (22, false)), (.load false 1 (.s 23))⟩, ⟨(some 25), (some (22, false)), (.mov (.s 6))⟩, ⟨(some 26), (some (22, false)), (.bin .sub (.s 25) (.c (.int 1)))⟩, ⟨(some 27), (some (22, false)), (.call 81 [(.s 24), (.s 26)])⟩, ⟨(some 28), (some (22, false)), (.bin .neq (.s 27) (.c (.int 0)))⟩, ⟨(some 29), none, (.pick (.s 22) (.c (.bool true)) (.s 28))⟩]) (.cond (.s 29) (.seq (.reg [⟨(some 4), none, (.mov (.c (.int 0)))⟩, ⟨(some 5), none, (.mov (.c (.bool false)))⟩]) .ret) .skip)) (.seq (.reg [⟨(some 30), none, (.load true 1 (.s 2))⟩, ⟨(some 31), none, (.load true 1 (.s 3))⟩, ⟨(some 32), none, (.mov (.s 6))⟩, ⟨(some 33), none, (.bin .sub (.s 32) (.c (.int 1)))⟩, ⟨(some 34), none, (.call 82 [(.s 30), (.s 31), (.s 33), (.c (.int 0))])⟩, ⟨(some 7), none, (.mov (.s 34))⟩]) (.seq (.seq (.reg [⟨(some 35), none, (.mov (.s 7))⟩, ⟨(some 36), none, (.bin .lss (.s 35) (.c (.int 0)))⟩]) (.cond (.s 36) (.seq (.reg [⟨(some 4), none, (.mov (.c (.int 0)))⟩, ⟨(some 5), none, (.mov (.c (.bool false)))⟩]) .ret) .skip)) (.seq (.reg [⟨(some 37), none, (.mov (.s 7))⟩, ⟨(some 4), none, (.mov (.s 37))⟩, ⟨(some 5), none, (.mov (.c (.bool true)))⟩]) .ret))))))⟩
theorem p36 : prepF Try.prog 36 = some c36 := by kernel_rfl
def c37 : F := ⟨9, [(.cell 2 true 1)], (.seq (.reg [⟨(some 1), none, (.box (.s 0))⟩, ⟨(some 2), none, (.alloc [(.e (.sl []))])⟩]) (.seq (.reg [⟨(some 3), none, (.alloc [(.e (.sl []))])⟩]) (.seq (.reg [⟨(some 4), none, (.fadr 0 (.s 1))⟩, ⟨(some 5), none, (.load false 1 (.s 4))⟩, ⟨(some 6), none, (.call 83 [(.s 5)])⟩, ⟨(some 7), none, (.fadr 0 (.s 3))⟩, ⟨none, none, (.store false 1 (.s 7) (.s 6))⟩]) (.seq (.reg [⟨(some 8), none, (.load true 1 (.s 3))⟩, ⟨none, none, (.store true 1 (.s 2) (.s 8))⟩]) .ret))))⟩
theorem p37 : prepF Try.prog 37 = some c37 := by kernel_rfl
def c38 : F := ⟨14, [(.tmp 4), (.tmp 5)], (.seq (.reg [⟨(some 2), none, (.box (.s 0))⟩, ⟨(some 3), none, (.box (.s 1))⟩, ⟨(some 4), none, (.mov (.c (.int 0)))⟩, ⟨(some 5), none, (.mov (.c (.bool false)))⟩]) (.seq (.reg [⟨(some 7), none, (.load true 1 (.s 2))⟩, ⟨(some 8), none, (.load true 1 (.s 3))⟩, ⟨(some 9), none, (.call 84 [(.s 7), (.s 8)])⟩, ⟨(some 6), none, (.mov (.s 9))⟩]) (.seq (.seq (.reg [⟨(some 10), none, (.mov (.s 6))⟩, ⟨(some 11), none, (.isnilI false (.s 10))⟩]) (.cond (.s 11) (.seq (.reg [⟨(some 4), none, (.mov (.c (.int 0)))⟩, ⟨(some 5), none, (.mov (.c (.bool false)))⟩]) .ret) .skip)) (.seq (.reg [⟨(some 12), none, (.mov (.s 6))⟩, ⟨(some 13), none, (.invk "loop.example/s0035/impl.width" (.s 12) [])⟩, ⟨(some 4), none, (.mov (.s 13))⟩, ⟨(some 5), none, (.mov (.c (.bool true)))⟩]) .ret))))⟩
theorem p38 : prepF Try.prog 38 = some c38 := by kernel_rfl
def c39 : F := ⟨11, [(.tmp 4)], (.seq (.reg [⟨(some 2), none, (.box (.s 0))⟩, ⟨(some 3), none, (.box (.s 1))⟩, ⟨(some 4), none, (.mov (.c (.bool false)))⟩]) (.seq (.seq (.reg [⟨(some 5), none, (.fadr 0 (.s 2))⟩, ⟨(some 6), none, (.load false 1 (.s 5))⟩, ⟨(some 7), none, (.fadr 0 (.s 3))⟩, ⟨(some 8), none, (.load false 1 (.s 7))⟩, ⟨(some 9), none, (.call 85 [(.s 6), (.s 8)])⟩, ⟨(some 10), none, (.un .not (.s 9))⟩]) (.cond (.s 10) (.seq (.reg [⟨(some 4), none, (.mov (.c (.bool false)))⟩]) .ret) .skip)) (.seq (.reg [⟨(some 4), none, (.mov (.c (.bool true)))⟩]) .ret)))⟩
theorem p39 : prepF Try.prog 39 = some c39 := by kernel_rfl
def c80 : F := ⟨27, [(.tmp 4)], (.seq (.reg [⟨(some 4), none, (.mov (.c (.int 0)))⟩]) (.seq (.reg [⟨(some 6), none, (.mov (.s 1))⟩, ⟨(some 7), none, (.mov (.s 0))⟩, ⟨(some 8), none, (.lenl (.s 7))⟩, ⟨(some 9), none, (.bin .sub (.s 6) (.s 8))⟩, ⟨(some 1), none, (.mov (.s 9))⟩]) (.seq (.seq (.reg [⟨(some 10), none, (.mov (.s 1))⟩, ⟨(some 11), none, (.bin .lss (.s 10) (.c (.int 0)))⟩]) (.cond (.s 11) (.seq (.reg [⟨(some 4), none, (.mov (.c (.int (-1))))⟩]) .ret) .skip)) (.seq (.seq (.reg [⟨(some 5), none, (.mov (.c (.int 0)))⟩]) (.block 0 (.loop (.seq (.seq (.reg [⟨(some 12), none, (.mov (.s 5))⟩, ⟨(some 13), none, (.mov (.s 0))⟩, ⟨(some 14), none, (.lenl (.s 13))⟩, ⟨(some 15), none, (.bin .lss (.s 12) (.s 14))⟩]) (.cond (.s 15) .skip (.exit 0))) (.seq (.block 1 (.seq (.reg [⟨(some 18), none, (.mov (.s 0))⟩, ⟨(some 19), none, (.mov (.s 5))⟩, ⟨(some 20), none, (.iadr none 7 (.s 18) (.s 19))⟩, ⟨(some 21), none, (.load true 7 (.s 20))⟩, ⟨(some 22), none, (.mov (.s 1))⟩, ⟨(some 23), none, (.call 140 [(.s 21), (.s 22)])⟩, ⟨(some 1), none, (.mov (.s 23))⟩]) (.seq (.reg [⟨(some 24), none, (.mov (.s 1))⟩, ⟨(some 25), none, (.bin .lss (.s 24) (.c (.int 0)))⟩]) (.cond (.s 25) (.seq (.reg [⟨(some 4), none, (.mov (.c (.int (-1))))⟩]) .ret) .skip)))) (.reg [⟨(some 16), none, (.mov (.s 5))⟩, ⟨(some 17), none, (.bin .add (.s 16) (.c (.int 1)))⟩, ⟨(some 5), none, (.mov (.s 17))⟩])))))) (.seq (.reg [⟨(some 26), none, (.mov (.s 1))⟩, ⟨(some 4), none, (.mov (.s 26))⟩]) .ret)))))⟩
theorem p80 : prepF Try.prog 80 = some c80 := by kernel_rfl
def c81 : F := ⟨75, [(.tmp 4)], (.seq (.reg [⟨(some 4), none, (.mov (.c (.int 0)))⟩]) (.seq (.seq (.reg [⟨(some 8), none, (.mov (.s 1))⟩, ⟨(some 9), none, (.bin .lss (.s 8) (.c (.int 0)))⟩, ⟨(some 10), none, (.mov (.s 9))⟩, ⟨(some 11), (some (10, false)), (.mov (.s 0))⟩, ⟨(some 12), (some (10, false)), (.mov (.s 1))⟩, ⟨(some 13), (some (10, false)), (.iadr none 7 (.s 11) (.s 12))⟩, ⟨(some 14), (some (10, false)), (.fadr 0 (.s 13))⟩, ⟨(some 15), (some (10, false)), (.load false 1 (.s 14))⟩, ⟨(some 16), (some (10, false)), (.call 141 [(.s 15)])⟩, ⟨(some 17), (some (10, false)), (.bin .lss (.s 16) (.c (.int 0)))⟩, ⟨(some 18), none, (.pick (.s 10) (.c (.bool true)) (.s 17))⟩]) (.cond (.s 18) (.seq (.reg [⟨(some 4), none, (.mov (.c (.int (-1))))⟩]) .ret) .skip)) (.seq (.reg [⟨(some 19), none, (.mov (.s 0))⟩, ⟨(some 20), none, (.mov (.s 1))⟩, ⟨(some 21), none, (.iadr none 7 (.s 19) (.s 20))⟩, ⟨(some 22), none, (.load true 7 (.s 21))⟩, ⟨(some 5), none, (.alloc [(.int 0), (.int 0), (.int 0), (.e (.sl [])), (.e (.sl [])), (.int 0), (.int 0)])⟩, ⟨none, none, (.store true 7 (.s 5) (.s 22))⟩]) (.seq (.reg [⟨(some 23), none, (.fadr 0 (.s 5))⟩, ⟨(some 24), none, (.load false 1 (.s 23))⟩, ⟨(some 25), none, (.call 141 [(.s 24)])⟩, ⟨(some 6), none, (.mov (.s 25))⟩]) (.seq (.seq (.reg [⟨(some 26), none, (.mov (.s 6))⟩, ⟨(some 27), none, (.bin .eql (.s 26) (.c (.int 0)))⟩]) (.cond (.s 27) (.seq (.seq (.reg [⟨(some 28), none, (.fadr 5 (.s 5))⟩, ⟨(some 29), none, (.load false 1 (.s 28))⟩, ⟨(some 30), none, (.bin .neq (.s 29) (.c (.int 0)))⟩, ⟨(some 31), none, (.mov (.s 30))⟩, ⟨(some 32), (some (31, false)), (.fadr 6 (.s 5))⟩, ⟨(some 33), (some (31, false)), (.load false 1 (.s 32))⟩, ⟨(some 34), (some (31, false)), (.bin .neq (.s 33) (.c (.int 0)))⟩, ⟨(some 35), none, (.pick (.s 31) (.c (.bool true)) (.s 34))⟩]) (.cond (.s 35) (.seq (.reg [⟨(some 4), none, (.mov (.c (.int (-1))))⟩]) .ret) .skip)) (.seq (.reg [⟨(some 36), none, (.mov (.s 1))⟩, ⟨(some 4), none, (.mov (.s 36))⟩]) .ret)) .skip)) (.seq (.seq (.reg [⟨(some 37), none, (.mov (.s 6))⟩, ⟨(some 38), none, (.bin .eql (.s 37) (.c (.int 1)))⟩]) (.cond (.s 38) (.seq (.seq (.reg [⟨(some 39), none, (.fadr 5 (.s 5))⟩, ⟨(some 40), none, (.load false 1 (.s 39))⟩, ⟨(some 41), none, (.mov (.s 1))⟩, ⟨(some 42), none, (.bin .sub (.s 41) (.c (.int 1)))⟩, ⟨(some 43), none, (.bin .neq (.s 40) (.s 42))⟩, ⟨(some 44), none, (.mov (.s 43))⟩, ⟨(some 45), (some (44, false)), (.fadr 6 (.s 5))⟩, ⟨(some 46), (some (44, false)), (.load false 1 (.s 45))⟩, ⟨(some 47), (some (44, false)), (.bin .neq (.s 46) (.c (.int 0)))⟩, ⟨(some 48), none, (.pick (.s 44) (.c (.bool true)) (.s 47))⟩]) (.cond (.s 48) (.seq (.reg [⟨(some 4), none, (.mov (.c (.int (-1))))⟩]) .ret) .skip)) (.seq (.reg [⟨(some 49), none, (.mov (.s 0))⟩, ⟨(some 50), none, (.mov (.s 1))⟩, ⟨(some 51), none, (.bin .sub (.s 50) (.c (.int 1)))⟩, ⟨(some 52), none, (.call 81 [(.s 49), (.s 51)])⟩, ⟨(some 4), none, (.mov (.s 52))⟩]) .ret)) .skip)) (.seq (.seq (.reg [⟨(some 53), none, (.fadr 6 (.s 5))⟩, ⟨(some 54), none, (.load false 1 (.s 53))⟩, ⟨(some 55), none, (.mov (.s 1))⟩, ⟨(some 56), none, (.bin .sub (.s 55) (.c (.int 1)))⟩, ⟨(some 57), none, (.bin .neq (.s 54) (.s 56))⟩]) (.cond (.s 57) (.seq (.reg [⟨(some 4), none, (.mov (.c (.int (-1))))⟩]) .ret) .skip)) (.seq (.reg [⟨(some 58), none, (.mov (.s 0))⟩, ⟨(some 59), none, (.mov (.s 1))⟩, ⟨(some 60), none, (.bin .sub (.s 59) (.c (.int 1)))⟩, ⟨(some 61), none, (.call 81 [(.s 58), (.s 60)])⟩, ⟨(some 7), none, (.mov (.s 61))⟩]) (.seq (.seq (.reg [⟨(some 62), none, (.mov (.s 7))⟩, ⟨(some 63), none, (.bin .lss (.s 62) (.c (.int 1)))⟩, ⟨(some 64), none, (.mov (.s 63))⟩, ⟨(some 65), (some (64, false)), (.fadr 5 (.s 5))⟩, ⟨(some 66), (some (64, false)), (.load false 1 (.s 65))⟩, ⟨(some 67), (some (64, false)), (.mov (.s 7))⟩, ⟨(some 68), (some (64, false)), (.bin .sub (.s 67) (.c (.int 1)))⟩, ⟨(some 69), (some (64, false)), (.bin .neq (.s 66) (.s 68))⟩, ⟨(some 70), none, (.pick (.s 64) (.c (.bool true)) (.s 69))⟩]) (.cond (.s 70) (.seq (.reg [⟨(some 4), none, (.mov (.c (.int (-1))))⟩]) .ret) .skip)) (.seq (.reg [⟨(some 71), none, (.mov (.s 0))⟩, ⟨(some 72), none, (.mov (.s 7))⟩, ⟨(some 73), none, (.bin .sub (.s 72) (.c (.int 1)))⟩, ⟨(some 74), none, (.call 81 [(.s 71), (.s 73)])⟩, ⟨(some 4), none, (.mov (.s 74))⟩]) .ret))))))))))⟩
theorem p81 : prepF Try.prog 81 = some c81 := by kernel_rfl
def c82 : F := ⟨145, [(.tmp 8)], (.seq (.reg [⟨(some 4), none, (.box (.s 0))⟩, ⟨(some 5), none, (.box (.s 1))⟩, ⟨(some 8), none, (.mov (.c (.int 0)))⟩]) (.seq (.reg [⟨(some 14), none, (.fadr 0 (.s 4))⟩, ⟨(some 15), none, (.load false 1 (.s 14))⟩, ⟨(some 16), none, (.mov (.s 2))⟩, ⟨(some 17), none, (.iadr none 7 (.s 15) (.s 16))⟩, ⟨(some 18), none, (.load true 7 (.s 17))⟩, ⟨(some 9), none, (.alloc [(.int 0), (.int 0), (.int 0), (.e (.sl [])), (.e (.sl [])), (.int 0), (.int 0)])⟩, ⟨none, none, (.store true 7 (.s 9) (.s 18))⟩]) (.seq (.seq (.reg [⟨(some 19), none, (.load true 7 (.s 9))⟩, ⟨(some 20), none, (.load true 1 (.s 5))⟩, ⟨(some 21), none, (.call 142 [(.s 19), (.s 20)])⟩, ⟨(some 22), none, (.un .not (.s 21))⟩]) (.cond (.s 22) (.seq (.reg [⟨(some 8), none, (.mov (.c (.int (-1))))⟩]) .ret) .skip)) (.seq (.reg [⟨(some 10), none, (.mov (.c (.int 0)))⟩]) (.seq (.reg [⟨(some 11), none, (.mov (.c (.int 0)))⟩]) (.seq (.seq (.reg [⟨(some 23), none, (.fadr 0 (.s 9))⟩, ⟨(some 24), none, (.load false 1 (.s 23))⟩, ⟨(some 25), none, (.call 141 [(.s 24)])⟩, ⟨(some 26), none, (.bin .gtr (.s 25) (.c (.int 0)))⟩]) (.cond (.s 26) (.seq (.reg [⟨(some 27), none, (.load true 1 (.s 4))⟩, ⟨(some 28), none, (.load true 1 (.s 5))⟩, ⟨(some 29), none, (.fadr 5 (.s 9))⟩, ⟨(some 30), none, (.load false 1 (.s 29))⟩, ⟨(some 31), none, (.mov (.s 3))⟩, ⟨(some 32), none, (.call 82 [(.s 27), (.s 28), (.s 30), (.s 31)])⟩, ⟨(some 10), none, (.mov (.s 32))⟩]) (.seq (.reg [⟨(some 33), none, (.mov (.s 10))⟩, ⟨(some 34), none, (.bin .lss (.s 33) (.c (.int 0)))⟩]) (.cond (.s 34) (.seq (.reg [⟨(some 8), none, (.mov (.c (.int (-1))))⟩]) .ret) .skip))) .skip)) (.seq (.seq (.reg [⟨(some 35), none, (.fadr 0 (.s 9))⟩, ⟨(some 36), none, (.load false 1 (.s 35))⟩, ⟨(some 37), none, (.call 141 [(.s 36)])⟩, ⟨(some 38), none, (.bin .gtr (.s 37) (.c (.int 1)))⟩]) (.cond (.s 38) (.seq (.dreg [⟨⟨(some 39), none, (.load true 1 (.s 4))⟩, [], [4]⟩, ⟨⟨(some 40), none, (.load true 1 (.s 5))⟩, [0], [5]⟩, ⟨⟨(some 41), none, (.fadr 6 (.s 9))⟩, [0, 1], [9]⟩, ⟨⟨(some 42), none, (.load false 1 (.s 41))⟩, [0, 1], [41]⟩, ⟨⟨(some 43), none, (.fadr 0 (.s 9))⟩, [0, 1, 2, 3], [9]⟩, ⟨⟨(some 44), none, (.load false 1 (.s 43))⟩, [0, 1, 2, 3], [43]⟩, ⟨⟨(some 45), none, (.mov (.s 3))⟩, [0, 1, 2, 3, 4, 5], [3]⟩, ⟨⟨(some 46), none, (.mov (.s 10))⟩, [0, 1, 2, 3, 4, 5, 6], [10]⟩, ⟨⟨(some 47), none, (.call 143 [(.s 44), (.s 45), (.s 46)])⟩, [0, 1, 2, 3], [44, 45, 46]⟩, ⟨⟨(some 48), none, (.call 82 [(.s 39), (.s 40), (.s 42), (.s 47)])⟩, [], [39, 40, 42, 47]⟩, ⟨⟨(some 11), none, (.mov (.s 48))⟩, [], [48]⟩]) (.seq (.reg [⟨(some 49), none, (.mov (.s 11))⟩, ⟨(some 50), none, (.bin .lss (.s 49) (.c (.int 0)))⟩]) (.cond (.s 50) (.seq (.reg [⟨(some 8), none, (.mov (.c (.int (-1))))⟩]) .ret) .skip))) .skip)) (.seq (.reg [⟨(some 51), none, (.mov (.s 10))⟩, ⟨(some 12), none, (.mov (.s 51))⟩]) (.seq (.seq (.reg [⟨(some 52), none, (.fadr 0 (.s 9))⟩, ⟨(some 53), none, (.load false 1 (.s 52))⟩, ⟨(some 54), none, (.bin .eql (.s 53) (.c (.int 2)))⟩]) (.cond (.s 54) (.reg [⟨(some 55), none, (.fadr 0 (.s 5))⟩, ⟨(some 56), none, (.load false 1 (.s 55))⟩, ⟨(some 57), none, (.fadr 1 (.s 9))⟩, ⟨(some 58), none, (.load false 1 (.s 57))⟩, ⟨(some 59), none, (.iadr none 3 (.s 56) (.s 58))⟩, ⟨(some 60), none, (.fadr 1 (.s 59))⟩, ⟨(some 61), none, (.load false 1 (.s 60))⟩, ⟨(some 12), none, (.mov (.s 61))⟩]) .skip)) (.seq (.seq (.reg [⟨(some 62), none, (.fadr 0 (.s 9))⟩, ⟨(some 63), none, (.load false 1 (.s 62))⟩, ⟨(some 64), none, (.bin .eql (.s 63) (.c (.int 3)))⟩, ⟨(some 65), none, (.mov (.s 64))⟩, ⟨(some 66), (some (65, true)), (.fadr 3 (.s 9))⟩, ⟨(some 67), (some (65, true)), (.load false 1 (.s 66))⟩, ⟨(some 68), (some (65, true)), (.mov (.s 3))⟩, ⟨(some 69), (some (65, true)), (.mov (.s 10))⟩, ⟨(some 70), (some (65, true)), (.bin .add (.s 68) (.s 69))⟩, ⟨(some 71), (some (65, true)), (.call 144 [(.s 67), (.s 70)])⟩, ⟨(some 72), (some (65, true)), (.un .not (.s 71))⟩, ⟨(some 73), none, (.pick (.s 65) (.s 72) (.c (.bool false)))⟩]) (.cond (.s 73) (.seq (.reg [⟨(some 8), none, (.mov (.c (.int (-1))))⟩]) .ret) .skip)) (.seq (.seq (.reg [⟨(some 74), none, (.fadr 0 (.s 9))⟩, ⟨(some 75), none, (.load false 1 (.s 74))⟩, ⟨(some 76), none, (.bin .eql (.s 75) (.c (.int 4)))⟩]) (.cond (.s 76) (.seq (.seq (.reg [⟨(some 13), none, (.mov (.c (.int 0)))⟩]) (.block 0 (.loop (.seq (.seq (.reg [⟨(some 77), none, (.mov (.s 13))⟩, ⟨(some 78), none, (.fadr 4 (.s 9))⟩, ⟨(some 79), none, (.load false 1 (.s 78))⟩, ⟨(some 80), none, (.lenl (.s 79))⟩, ⟨(some 81), none, (.bin .lss (.s 77) (.s 80))⟩]) (.cond (.s 81) .skip (.exit 0))) (.seq (.block 1 (.seq (.reg [⟨(some 84), none, (.fadr 4 (.s 9))⟩, ⟨(some 85), none, (.load false 1 (.s 84))⟩, ⟨(some 86), none, (.mov (.s 13))⟩, ⟨(some 87), none, (.iadr none 1 (.s 85) (.s 86))⟩, ⟨(some 88), none, (.load false 1 (.s 87))⟩, ⟨(some 89), none, (.mov (.s 3))⟩, ⟨(some 90), none, (.mov (.s 10))⟩, ⟨(some 91), none, (.bin .add (.s 89) (.s 90))⟩, ⟨(some 92), none, (.call 144 [(.s 88), (.s 91)])⟩, ⟨(some 93), none, (.un .not (.s 92))⟩]) (.cond (.s 93) (.seq (.reg [⟨(some 8), none, (.mov (.c (.int (-1))))⟩]) .ret) .skip))) (.reg [⟨(some 82), none, (.mov (.s 13))⟩, ⟨(some 83), none, (.bin .add (.s 82) (.c (.int 1)))⟩, ⟨(some 13), none, (.mov (.s 83))⟩])))))) (.reg [⟨(some 94), none, (.fadr 4 (.s 9))⟩, ⟨(some 95), none, (.load false 1 (.s 94))⟩, ⟨(some 96), none, (.lenl (.s 95))⟩, ⟨(some 12), none, (.mov (.s 96))⟩])) .skip)) (.seq (.seq (.reg [⟨(some 97), none, (.fadr 0 (.s 9))⟩, ⟨(some 98), none, (.load false 1 (.s 97))⟩, ⟨(some 99), none, (.bin .eql (.s 98) (.c (.int 5)))⟩, ⟨(some 100), none, (.mov (.s 99))⟩, ⟨(some 101), (some (100, false)), (.fadr 0 (.s 9))⟩, ⟨(some 102), (some (100, false)), (.load false 1 (.s 101))⟩, ⟨(some 103), (some (100, false)), (.bin .eql (.s 102) (.c (.int 6)))⟩, ⟨(some 104), none, (.pick (.s 100) (.c (.bool true)) (.s 103))⟩]) (.cond (.s 104) (.reg [⟨(some 105), none, (.mov (.s 10))⟩, ⟨(some 106), none, (.mov (.s 11))⟩, ⟨(some 107), none, (.bin .add (.s 105) (.s 106))⟩, ⟨(some 12), none, (.mov (.s 107))⟩]) .skip)) (.seq (.seq (.reg [⟨(some 108), none, (.fadr 0 (.s 9))⟩, ⟨(some 109), none, (.load false 1 (.s 108))⟩, ⟨(some 110), none, (.bin .eql (.s 109) (.c (.int 7)))⟩, ⟨(some 111), none, (.mov (.s 110))⟩, ⟨(some 112), (some (111, false)), (.fadr 0 (.s 9))⟩, ⟨(some 113), (some (111, false)), (.load false 1 (.s 112))⟩, ⟨(some 114), (some (111, false)), (.bin .eql (.s 113) (.c (.int 8)))⟩, ⟨(some 115), none, (.pick (.s 111) (.c (.bool true)) (.s 114))⟩]) (.cond (.s 115) (.seq (.seq (.reg [⟨(some 116), none, (.fadr 2 (.s 9))⟩, ⟨(some 117), none, (.load false 1 (.s 116))⟩, ⟨(some 118), none, (.bin .neq (.s 117) (.c (.int 1)))⟩, ⟨(some 119), none, (.mov (.s 118))⟩, ⟨(some 120), (some (119, true)), (.fadr 3 (.s 9))⟩, ⟨(some 121), (some (119, true)), (.load false 1 (.s 120))⟩, ⟨(some 122), (some (119, true)), (.mov (.s 3))⟩, ⟨(some 123), (some (119, true)), (.mov (.s 10))⟩, ⟨(some 124), (some (119, true)), (.bin .add (.s 122) (.s 123))⟩, ⟨(some 125), (some (119, true)), (.mov (.s 11))⟩, ⟨(some 126), (some (119, true)), (.bin .add (.s 124) (.s 125))⟩, ⟨(some 127), (some (119, true)), (.call 144 [(.s 121), (.s 126)])⟩, ⟨(some 128), (some (119, true)), (.un .not (.s 127))⟩, ⟨(some 129), none, (.pick (.s 119) (.s 128) (.c (.bool false)))⟩]) (.cond (.s 129) (.seq (.reg [⟨(some 8), none, (.mov (.c (.int (-1))))⟩]) .ret) .skip)) (.reg [⟨(some 130), none, (.mov (.s 10))⟩, ⟨(some 131), none, (.bin .add (.s 130) (.c (.int 1)))⟩, ⟨(some 12), none, (.mov (.s 131))⟩])) .skip)) (.seq (.seq (.reg [⟨(some 132), none, (.fadr 0 (.s 9))⟩, ⟨(some 133), none, (.load false 1 (.s 132))⟩, ⟨(some 134), none, (.bin .eql (.s 133) (.c (.int 10)))⟩, ⟨(some 135), none, (.mov (.s 134))⟩, ⟨(some 136), (some (135, true)), (.mov (.s 10))⟩, ⟨(some 137), (some (135, true)), (.mov (.s 11))⟩, ⟨(some 138), (some (135, true)), (.bin .neq (.s 136) (.s 137))⟩, ⟨(some 139), none, (.pick (.s 135) (.s 138) (.c (.bool false)))⟩]) (.cond (.s 139) (.seq (.reg [⟨(some 8), none, (.mov (.c (.int (-1))))⟩]) .ret) .skip)) (.seq (.seq (.reg [⟨(some 140), none, (.mov (.s 3))⟩, ⟨(some 141), none, (.mov (.s 12))⟩, ⟨(some 142), none, (.bin .add (.s 140) (.s 141))⟩, ⟨(some 143), none, (.bin .gtr (.s 142) (.c (.int 200)))⟩]) (.cond (.s 143) (.seq (.reg [⟨(some 8), none, (.mov (.c (.int (-1))))⟩]) .ret) .skip)) (.seq (.reg [⟨(some 144), none, (.mov (.s 12))⟩, ⟨(some 8), none, (.mov (.s 144))⟩]) .ret))))))))))))))))⟩
theorem p82 : prepF Try.prog 82 = some c82 := by kernel_rfl
def c83 : F := ⟨23, [(.tmp 2)], (.seq (.reg [⟨(some 2), none, (.mov (.c .zs))⟩]) (.seq (.reg [⟨(some 5), none, (.mov (.s 0))⟩, ⟨(some 6), none, (.lenl (.s 5))⟩, ⟨(some 7), none, (.mks [(.int 0), (.int 0), (.int 0), (.e (.sl [])), (.e (.sl [])), (.int 0), (.int 0)] (.s 6))⟩, ⟨(some 3), none, (.mov (.s 7))⟩]) (.seq (.seq (.reg [⟨(some 4), none, (.mov (.c (.int 0)))⟩]) (.block 0 (.loop (.seq (.seq (.reg [⟨(some 8), none, (.mov (.s 4))⟩, ⟨(some 9), none, (.mov (.s 0))⟩, ⟨(some 10), none, (.lenl (.s 9))⟩, ⟨(some 11), none, (.bin .lss (.s 8) (.s 10))⟩]) (.cond (.s 11) .skip (.exit 0))) (.seq (.block 1 (.reg [⟨(some 14), none, (.mov (.s 3))⟩, ⟨(some 15), none, (.mov (.s 4))⟩, ⟨(some 16), none, (.mov (.s 0))⟩, ⟨(some 17), none, (.mov (.s 4))⟩, ⟨(some 18), none, (.iadr none 7 (.s 16) (.s 17))⟩, ⟨(some 19), none, (.load true 7 (.s 18))⟩, ⟨(some 20), none, (.call 145 [(.s 19)])⟩, ⟨(some 21), none, (.iadr none 7 (.s 14) (.s 15))⟩, ⟨none, none, (.store true 7 (.s 21) (.s 20))⟩])) (.reg [⟨(some 12), none, (.mov (.s 4))⟩, ⟨(some 13), none, (.bin .add (.s 12) (.c (.int 1)))⟩, ⟨(some 4), none, (.mov (.s 13))⟩])))))) (.seq (.reg [⟨(some 22), none, (.mov (.s 3))⟩, ⟨(some 2), none, (.mov (.s 22))⟩]) .ret))))⟩
theorem p83 : prepF Try.prog 83 = some c83 := by kernel_rfl
def c84 : F := ⟨28, [(.tmp 4)], (.seq (.reg [⟨(some 2), none, (.box (.s 0))⟩, ⟨(some 3), none, (.box (.s 1))⟩, ⟨(some 4), none, (.mov (.c (.e (.v .nilIface))))⟩]) (.seq (.reg [⟨(some 8), none, (.load true 1 (.s 2))⟩, ⟨(some 9), none, (.call 146 [(.s 8)])⟩, ⟨(some 7), none, (.mov (.s 9))⟩, ⟨(some 10), none, (.ext 0 (.s 7))⟩, ⟨(some 11), none, (.ext 1 (.s 7))⟩, ⟨(some 5), none, (.mov (.s 10))⟩, ⟨(some 6), none, (.mov (.s 11))⟩]) (.seq (.seq (.reg [⟨(some 12), none, (.mov (.s 6))⟩, ⟨(some 13), none, (.un .not (.s 12))⟩, ⟨(some 14), none, (.mov (.s 13))⟩, ⟨(some 15), (some (14, false)), (.load true 1 (.s 3))⟩, ⟨(some 16), (some (14, false)), (.call 135 [(.s 15)])⟩, ⟨(some 17), (some (14, false)), (.un .not (.s 16))⟩, ⟨(some 18), none, (.pick (.s 14) (.c (.bool true)) (.s 17))⟩]) (.cond (.s 18) (.seq (.reg [⟨(some 4), none, (.mov (.c (.e (.v .nilIface))))⟩]) .ret) .skip)) (.seq (.reg [⟨(some 19), none, (.load true 1 (.s 2))⟩, ⟨(some 20), none, (.load true 1 (.s 3))⟩, ⟨(some 21), none, (.mov (.s 5))⟩, ⟨(some 22), none, (.build [(.e (.sl [])), (.e (.sl [])), (.e (.sl []))] [(0, (1, (.s 19))), (1, (1, (.s 20))), (2, (1, (.s 21)))])⟩, ⟨(some 23), none, (.fadr 0 (.s 2))⟩, ⟨(some 24), none, (.load false 1 (.s 23))⟩, ⟨(some 25), none, (.lenl (.s 24))⟩, ⟨(some 26), none, (.bin .sub (.s 25) (.c (.int 1)))⟩, ⟨(some 27), none, (.call 147 [(.s 22), (.s 26), (.c (.int 0))])⟩, ⟨(some 4), none, (.mov (.s 27))⟩]) .ret))))⟩
theorem p84 : prepF Try.prog 84 = some c84 := by kernel_rfl
def c85 : F := ⟨27, [(.tmp 4)], (.seq (.reg [⟨(some 4), none, (.mov (.c (.bool false)))⟩]) (.seq (.seq (.reg [⟨(some 6), none, (.mov (.s 0))⟩, ⟨(some 7), none, (.lenl (.s 6))⟩, ⟨(some 8), none, (.mov (.s 1))⟩, ⟨(some 9), none, (.lenl (.s 8))⟩, ⟨(some 10), none, (.bin .neq (.s 7) (.s 9))⟩]) (.cond (.s 10) (.seq (.reg [⟨(some 4), none, (.mov (.c (.bool false)))⟩]) .ret) .skip)) (.seq (.seq (.reg [⟨(some 5), none, (.mov (.c (.int 0)))⟩]) (.block 0 (.loop (.seq (.seq (.reg [⟨(some 11), none, (.mov (.s 5))⟩, ⟨(some 12), none, (.mov (.s 0))⟩, ⟨(some 13), none, (.lenl (.s 12))⟩, ⟨(some 14), none, (.bin .lss (.s 11) (.s 13))⟩]) (.cond (.s 14) .skip (.exit 0))) (.seq (.block 1 (.seq (.dreg [⟨⟨(some 17), none, (.mov (.s 0))⟩, [], [0]⟩, ⟨⟨(some 18), none, (.mov (.s 5))⟩, [0], [5]⟩, ⟨⟨(some 19), none, (.iadr none 7 (.s 17) (.s 18))⟩, [], [17, 18]⟩, ⟨⟨(some 20), none, (.load true 7 (.s 19))⟩, [], [19]⟩, ⟨⟨(some 21), none, (.mov (.s 1))⟩, [0, 1, 2, 3], [1]⟩, ⟨⟨(some 22), none, (.mov (.s 5))⟩, [0, 1, 2, 3, 4], [5]⟩, ⟨⟨(some 23), none, (.iadr none 7 (.s 21) (.s 22))⟩, [0, 1, 2, 3], [21, 22]⟩, ⟨⟨(some 24), none, (.load true 7 (.s 23))⟩, [0, 1, 2, 3], [23]⟩, ⟨⟨(some 25), none, (.call 148 [(.s 20), (.s 24)])⟩, [], [20, 24]⟩, ⟨⟨(some 26), none, (.un .not (.s 25))⟩, [], [25]⟩]) (.cond (.s 26) (.seq (.reg [⟨(some 4), none, (.mov (.c (.bool false)))⟩]) .ret) .skip))) (.reg [⟨(some 15), none, (.mov (.s 5))⟩, ⟨(some 16), none, (.bin .add (.s 15) (.c (.int 1)))⟩, ⟨(some 5), none, (.mov (.s 16))⟩])))))) (.seq (.reg [⟨(some 4), none, (.mov (.c (.bool true)))⟩]) .ret))))⟩
theorem p85 : prepF Try.prog 85 = some c85 := by kernel_rfl
def c90 : F := ⟨9, [(.tmp 2)], (.seq (.reg [⟨(some 2), none, (.mov (.c (.bool false)))⟩]) (.seq (.reg [⟨(some 3), none, (.mov (.s 0))⟩, ⟨(some 4), none, (.bin .geq (.s 3) (.c (.int 3)))⟩, ⟨(some 5), none, (.mov (.s 4))⟩, ⟨(some 6), (some (5, true)), (.mov (.s 0))⟩, ⟨(some 7), (some (5, true)), (.bin .leq (.s 6) (.c (.int 10)))⟩, ⟨(some 8), none, (.pick (.s 5) (.s 7) (.c (.bool false)))⟩, ⟨(some 2), none, (.mov (.s 8))⟩]) .ret))⟩
theorem p90 : prepF Try.prog 90 = some c90 := by kernel_rfl
def c91 : F := ⟨13, [(.tmp 2)], (.seq (.reg [⟨(some 2), none, (.mov (.c (.bool false)))⟩]) (.seq (.reg [⟨(some 3), none, (.mov (.s 0))⟩, ⟨(some 4), none, (.bin .geq (.s 3) (.c (.int 5)))⟩, ⟨(some 5), none, (.mov (.s 4))⟩, ⟨(some 6), (some (5, true)), (.mov (.s 0))⟩, ⟨(some 7), (some (5, true)), (.bin .leq (.s 6) (.c (.int 8)))⟩, ⟨(some 8), none, (.pick (.s 5) (.s 7) (.c (.bool false)))⟩, ⟨(some 9), none, (.mov (.s 8))⟩, ⟨(some 10), (some (9, false)), (.mov (.s 0))⟩, ⟨(some 11), (some (9, false)), (.bin .eql (.s 10) (.c (.int 10)))⟩, ⟨(some 12), none, (.pick (.s 9) (.c (.bool true)) (.s 11))⟩, ⟨(some 2), none, (.mov (.s 12))⟩]) .ret))⟩
theorem p91 : prepF Try.prog 91 = some c91 := by kernel_rfl
def c92 : F := ⟨13, [(.tmp 2)], (.seq (.reg [⟨(some 2), none, (.mov (.c (.bool false)))⟩]) (.seq (.reg [⟨(some 3), none, (.mov (.s 0))⟩, ⟨(some 4), none, (.bin .eql (.s 3) (.c (.int 6)))⟩, ⟨(some 5), none, (.mov (.s 4))⟩, ⟨(some 6), (some (5, false)), (.mov (.s 0))⟩, ⟨(some 7), (some (5, false)), (.bin .eql (.s 6) (.c (.int 7)))⟩, ⟨(some 8), none, (.pick (.s 5) (.c (.bool true)) (.s 7))⟩, ⟨(some 9), none, (.mov (.s 8))⟩, ⟨(some 10), (some (9, false)), (.mov (.s 0))⟩, ⟨(some 11), (some (9, false)), (.bin .eql (.s 10) (.c (.int 8)))⟩, ⟨(some 12), none, (.pick (.s 9) (.c (.bool true)) (.s 11))⟩, ⟨(some 2), none, (.mov (.s 12))⟩]) .ret))⟩
theorem p92 : prepF Try.prog 92 = some c92 := by kernel_rfl
def c140 : F := ⟨18, [(.tmp 4)], (.seq (.reg [⟨(some 2), none, (.box (.s 0))⟩, ⟨(some 4), none, (.mov (.c (.int 0)))⟩]) (.seq (.reg [⟨(some 5), none, (.fadr 3 (.s 2))⟩, ⟨(some 6), none, (.load false 1 (.s 5))⟩, ⟨(some 7), none, (.mov (.s 1))⟩, ⟨(some 8), none, (.call 172 [(.s 6), (.s 7)])⟩, ⟨(some 1), none, (.mov (.s 8))⟩]) (.seq (.seq (.reg [⟨(some 9), none, (.mov (.s 1))⟩, ⟨(some 10), none, (.bin .lss (.s 9) (.c (.int 0)))⟩]) (.cond (.s 10) (.seq (.reg [⟨(some 4), none, (.mov (.c (.int (-1))))⟩]) .ret) .skip)) (.seq (.reg [⟨(some 11), none, (.fadr 4 (.s 2))⟩, ⟨(some 12), none, (.load false 1 (.s 11))⟩, ⟨(some 13), none, (.mov (.s 1))⟩, ⟨(some 14), none, (.call 173 [(.s 12), (.s 13)])⟩, ⟨(some 1), none, (.mov (.s 14))⟩]) (.seq (.seq (.reg [⟨(some 15), none, (.mov (.s 1))⟩, ⟨(some 16), none, (.bin .lss (.s 15) (.c (.int 0)))⟩]) (.cond (.s 16) (.seq (.reg [⟨(some 4), none, (.mov (.c (.int (-1))))⟩]) .ret) .skip)) (.seq (.reg [⟨(some 17), none, (.mov (.s 1))⟩, ⟨(some 4), none, (.mov (.s 17))⟩]) .ret))))))⟩
theorem p140 : prepF Try.prog 140 = some c140 := by kernel_rfl
def c141 : F := ⟨25, [(.tmp 2)], (.seq (.reg [⟨(some 2), none, (.mov (.c (.int 0)))⟩]) (.seq (.seq (.reg [⟨(some 3), none, (.mov (.s 0))⟩, ⟨(some 4), none, (.bin .eql (.s 3) (.c (.int 1)))⟩, ⟨(some 5), none, (.mov (.s 4))⟩, ⟨(some 6), (some (5, false)), (.mov (.s 0))⟩, ⟨(some 7), (some (5, false)), (.bin .eql (.s 6) (.c (.int 2)))⟩, ⟨(some 8), none, (.pick (.s 5) (.c (.bool true)) (.s 7))⟩]) (.cond (.s 8) (.seq (.reg [⟨(some 2), none, (.mov (.c (.int 0)))⟩]) .ret) .skip)) (.seq (.seq (.reg [⟨(some 9), none, (.mov (.s 0))⟩, ⟨(some 10), none, (.bin .eql (.s 9) (.c (.int 3)))⟩, ⟨(some 11), none, (.mov (.s 10))⟩, ⟨(some 12), (some (11, false)), (.mov (.s 0))⟩, ⟨(some 13), (some (11, false)), (.bin .eql (.s 12) (.c (.int 4)))⟩, ⟨(some 14), none, (.pick (.s 11) (.c (.bool true)) (.s 13))⟩, ⟨(some 15), none, (.mov (.s 14))⟩, ⟨(some 16), (some (15, false)), (.mov (.s 0))⟩, ⟨(some 17), (some (15, false)), (.bin .eql (.s 16) (.c (.int 9)))⟩, ⟨(some 18), none, (.pick (.s 15) (.c (.bool true)) (.s 17))⟩]) (.cond (.s 18) (.seq (.reg [⟨(some 2), none, (.mov (.c (.int 1)))⟩]) .ret) .skip)) (.seq (.seq (.reg [⟨(some 19), none, (.mov (.s 0))⟩, ⟨(some 20), none, (.bin .geq (.s 19) (.c (.int 1)))⟩, ⟨(some 21), none, (.mov (.s 20))⟩, ⟨(some 22), (some (21, true)), (.mov (.s 0))⟩, ⟨(some 23), (some (21, true)), (.bin .leq (.s 22) (.c (.int 10)))⟩, ⟨(some 24), none, (.pick (.s 21) (.s 23) (.c (.bool false)))⟩]) (.cond (.s 24) (.seq (.reg [⟨(some 2), none, (.mov (.c (.int 2)))⟩]) .ret) .skip)) (.seq (.reg [⟨(some 2), none, (.mov (.c (.int (-1))))⟩]) .ret)))))⟩
theorem p141 : prepF Try.prog 141 = some c141 := by kernel_rfl
def c142 : F := ⟨87, [(.tmp 4)], (.seq (.reg [⟨(some 2), none, (.box (.s 0))⟩, ⟨(some 3), none, (.box (.s 1))⟩, ⟨(some 4), none, (.mov (.c (.bool false)))⟩]) (.seq (.reg [⟨(some 7), none, (.fadr 0 (.s 2))⟩, ⟨(some 8), none, (.load false 1 (.s 7))⟩, ⟨(some 9), none, (.bin .eql (.s 8) (.c (.int 2)))⟩, ⟨(some 5), none, (.mov (.s 9))⟩]) (.seq (.reg [⟨(some 10), none, (.fadr 0 (.s 2))⟩, ⟨(some 11), none, (.load false 1 (.s 10))⟩, ⟨(some 12), none, (.bin .eql (.s 11) (.c (.int 3)))⟩, ⟨(some 13), none, (.mov (.s 12))⟩, ⟨(some 14), (some (13, false)), (.fadr 0 (.s 2))⟩, ⟨(some 15), (some (13, false)), (.load false 1 (.s 14))⟩, ⟨(some 16), (some (13, false)), (.bin .eql (.s 15) (.c (.int 7)))⟩, ⟨(some 17), none, (.pick (.s 13) (.c (.bool true)) (.s 16))⟩, ⟨(some 18), none, (.mov (.s 17))⟩, ⟨(some 19), (some (18, false)), (.fadr 0 (.s 2))⟩, ⟨(some 20), (some (18, false)), (.load false 1 (.s 19))⟩, ⟨(some 21), (some (18, false)), (.bin .eql (.s 20) (.c (.int 8)))⟩, ⟨(some 22), (some (18, false)), (.mov (.s 21))⟩, ⟨(some 23), (some (22, true)), (.fadr 2 (.s 2))⟩, ⟨(some 24), (some (22, true)), (.load false 1 (.s 23))⟩, ⟨(some 25), (some (22, true)), (.bin .neq (.s 24) (.c (.int 1)))⟩, ⟨(some 26), (some (18, false)), (.pick (.s 22) (.s 25) (.c (.bool false)))⟩, ⟨(some 27), none, (.pick (.s 18) (.c (.bool true)) (.s 26))⟩, ⟨(some 6), none, (.mov (.s 27))⟩]) (.seq (.seq (.reg [⟨(some 28), none, (.mov (.s 5))⟩, ⟨(some 29), none, (.un .not (.s 28))⟩, ⟨(some 30), none, (.mov (.s 29))⟩, ⟨(some 31), (some (30, true)), (.fadr 1 (.s 2))⟩, ⟨(some 32), (some (30, true)), (.load false 1 (.s 31))⟩, ⟨(some 33), (some (30, true)), (.bin .neq (.s 32) (.c (.int 0)))⟩, ⟨(some 34), none, (.pick (.s 30) (.s 33) (.c (.bool false)))⟩]) (.cond (.s 34) (.seq (.reg [⟨(some 4), none, (.mov (.c (.bool false)))⟩]) .ret) .skip)) (.seq (.seq (.reg [⟨(some 35), none, (.mov (.s 5))⟩, ⟨(some 36), none, (.mov (.s 35))⟩, ⟨(some 37), (some (36, true)), (.fadr 1 (.s 2))⟩, ⟨(some 38), (some (36, true)), (.load false 1 (.s 37))⟩, ⟨(some 39), (some (36, true)), (.bin .lss (.s 38) (.c (.int 0)))⟩, ⟨(some 40), (some (36, true)), (.mov (.s 39))⟩, ⟨(some 41), (some (40, false)), (.fadr 1 (.s 2))⟩, ⟨(some 42), (some (40, false)), (.load false 1 (.s 41))⟩, ⟨(some 43), (some (40, false)), (.fadr 0 (.s 3))⟩, ⟨(some 44), (some (40, false)), (.load false 1 (.s 43))⟩, ⟨(some 45), (some (40, false)), (.lenl (.s 44))⟩, ⟨(some 46), (some (40, false)), (.bin .geq (.s 42) (.s 45))⟩, ⟨(some 47), (some (36, true)), (.pick (.s 40) (.c (.bool true)) (.s 46))⟩, ⟨(some 48), none, (.pick (.s 36) (.s 47) (.c (.bool false)))⟩]) (.cond (.s 48) (.seq (.reg [⟨(some 4), none, (.mov (.c (.bool false)))⟩]) .ret) .skip)) (.seq (.seq (.reg [⟨(some 49), none, (.fadr 0 (.s 2))⟩, ⟨(some 50), none, (.load false 1 (.s 49))⟩, ⟨(some 51), none, (.bin .neq (.s 50) (.c (.int 8)))⟩, ⟨(some 52), none, (.mov (.s 51))⟩, ⟨(some 53), (some (52, true)), (.fadr 2 (.s 2))⟩, ⟨(some 54), (some (52, true)), (.load false 1 (.s 53))⟩, ⟨(some 55), (some (52, true)), (.bin .neq (.s 54) (.c (.int 0)))⟩, ⟨(some 56), none, (.pick (.s 52) (.s 55) (.c (.bool false)))⟩]) (.cond (.s 56) (.seq (.reg [⟨(some 4), none, (.mov (.c (.bool false)))⟩]) .ret) .skip)) (.seq (.seq (.reg [⟨(some 57), none, (.fadr 0 (.s 2))⟩, ⟨(some 58), none, (.load false 1 (.s 57))⟩, ⟨(some 59), none, (.bin .eql (.s 58) (.c (.int 8)))⟩, ⟨(some 60), none, (.mov (.s 59))⟩, ⟨(some 61), (some (60, true)), (.fadr 2 (.s 2))⟩, ⟨(some 62), (some (60, true)), (.load false 1 (.s 61))⟩, ⟨(some 63), (some (60, true)), (.bin .lss (.s 62) (.c (.int 1)))⟩, ⟨(some 64), (some (60, true)), (.mov (.s 63))⟩, ⟨(some 65), (some (64, false)), (.fadr 2 (.s 2))⟩, ⟨(some 66), (some (64, false)), (.load false 1 (.s 65))⟩, ⟨(some 67), (some (64, false)), (.bin .gtr (.s 66) (.c (.int 4)))⟩, ⟨(some 68), (some (60, true)), (.pick (.s 64) (.c (.bool true)) (.s 67))⟩, ⟨(some 69), none, (.pick (.s 60) (.s 68) (.c (.bool false)))⟩]) (.cond (.s 69) (.seq (.reg [⟨(some 4), none, (.mov (.c (.bool false)))⟩]) .ret) .skip)) (.seq (.seq (.reg [⟨(some 70), none, (.mov (.s 6))⟩, ⟨(some 71), none, (.un .not (.s 70))⟩, ⟨(some 72), none, (.mov (.s 71))⟩, ⟨(some 73), (some (72, true)), (.fadr 3 (.s 2))⟩, ⟨(some 74), (some (72, true)), (.load false 1 (.s 73))⟩, ⟨(some 75), (some (72, true)), (.lenl (.s 74))⟩, ⟨(some 76), (some (72, true)), (.bin .neq (.s 75) (.c (.int 0)))⟩, ⟨(some 77), none, (.pick (.s 72) (.s 76) (.c (.bool false)))⟩]) (.cond (.s 77) (.seq (.reg [⟨(some 4), none, (.mov (.c (.bool false)))⟩]) .ret) .skip)) (.seq (.reg [⟨(some 78), none, (.fadr 0 (.s 2))⟩, ⟨(some 79), none, (.load false 1 (.s 78))⟩, ⟨(some 80), none, (.bin .eql (.s 79) (.c (.int 4)))⟩, ⟨(some 81), none, (.mov (.s 80))⟩, ⟨(some 82), (some (81, false)), (.fadr 4 (.s 2))⟩, ⟨(some 83), (some (81, false)), (.load false 1 (.s 82))⟩, ⟨(some 84), (some (81, false)), (.lenl (.s 83))⟩, ⟨(some 85), (some (81, false)), (.bin .eql (.s 84) (.c (.int 0)))⟩, ⟨(some 86), none, (.pick (.s 81) (.c (.bool true)) (.s 85))⟩, ⟨(some 4), none, (.mov (.s 86))⟩]) .ret)))))))))⟩
theorem p142 : prepF Try.prog 142 = some c142 := by kernel_rfl
def c143 : F := ⟨21, [(.tmp 6)], (.seq (.reg [⟨(some 6), none, (.mov (.c (.int 0)))⟩]) (.seq (.seq (.reg [⟨(some 7), none, (.mov (.s 0))⟩, ⟨(some 8), none, (.bin .eql (.s 7) (.c (.int 6)))⟩, ⟨(some 9), none, (.mov (.s 8))⟩, ⟨(some 10), (some (9, false)), (.mov (.s 0))⟩, ⟨(some 11), (some (9, false)), (.bin .eql (.s 10) (.c (.int 7)))⟩, ⟨(some 12), none, (.pick (.s 9) (.c (.bool true)) (.s 11))⟩, ⟨(some 13), none, (.mov (.s 12))⟩, ⟨(some 14), (some (13, false)), (.mov (.s 0))⟩, ⟨(some 15), (some (13, false)), (.bin .eql (.s 14) (.c (.int 8)))⟩, ⟨(some 16), none, (.pick (.s 13) (.c (.bool true)) (.s 15))⟩]) (.cond (.s 16) (.seq (.reg [⟨(some 17), none, (.mov (.s 1))⟩, ⟨(some 18), none, (.mov (.s 2))⟩, ⟨(some 19), none, (.bin .add (.s 17) (.s 18))⟩, ⟨(some 6), none, (.mov (.s 19))⟩]) .ret) .skip)) (.seq (.reg [⟨(some 20), none, (.mov (.s 1))⟩, ⟨(some 6), none, (.mov (.s 20))⟩]) .ret)))⟩
theorem p143 : prepF Try.prog 143 = some c143 := by kernel_rfl
def c145 : F := ⟨28, [(.cell 2 true 7)], (.seq (.reg [⟨(some 1), none, (.box (.s 0))⟩, ⟨(some 2), none, (.alloc [(.int 0), (.int 0), (.int 0), (.e (.sl [])), (.e (.sl [])), (.int 0), (.int 0)])⟩]) (.seq (.reg [⟨(some 3), none, (.alloc [(.int 0), (.int 0), (.int 0), (.e (.sl [])), (.e (.sl [])), (.int 0), (.int 0)])⟩]) (.seq (.reg [⟨(some 4), none, (.fadr 0 (.s 1))⟩, ⟨(some 5), none, (.load false 1 (.s 4))⟩, ⟨(some 6), none, (.fadr 0 (.s 3))⟩, ⟨none, none, (.store false 1 (.s 6) (.s 5))⟩]) (.seq (.reg [⟨(some 7), none, (.fadr 1 (.s 1))⟩, ⟨(some 8), none, (.load false 1 (.s 7))⟩, ⟨(some 9), none, (.fadr 1 (.s 3))⟩, ⟨none, none, (.store false 1 (.s 9) (.s 8))⟩]) (.seq (.reg [⟨(some 10), none, (.fadr 2 (.s 1))⟩, ⟨(some 11), none, (.load false 1 (.s 10))⟩, ⟨(some 12), none, (.fadr 2 (.s 3))⟩, ⟨none, none, (.store false 1 (.s 12) (.s 11))⟩]) (.seq (.reg [⟨(some 13), none, (.fadr 3 (.s 1))⟩, ⟨(some 14), none, (.load false 1 (.s 13))⟩, ⟨(some 15), none, (.call 176 [(.s 14)])⟩, ⟨(some 16), none, (.fadr 3 (.s 3))⟩, ⟨none, none, (.store false 1 (.s 16) (.s 15))⟩]) (.seq (.reg [⟨(some 17), none, (.fadr 4 (.s 1))⟩, ⟨(some 18), none, (.load false 1 (.s 17))⟩, ⟨(some 19), none, (.call 177 [(.s 18)])⟩, ⟨(some 20), none, (.fadr 4 (.s 3))⟩, ⟨none, none, (.store false 1 (.s 20) (.s 19))⟩]) (.seq (.reg [⟨(some 21), none, (.fadr 5 (.s 1))⟩, ⟨(some 22), none, (.load false 1 (.s 21))⟩, ⟨(some 23), none, (.fadr 5 (.s 3))⟩, ⟨none, none, (.store false 1 (.s 23) (.s 22))⟩]) (.seq (.reg [⟨(some 24), none, (.fadr 6 (.s 1))⟩, ⟨(some 25), none, (.load false 1 (.s 24))⟩, ⟨(some 26), none, (.fadr 6 (.s 3))⟩, ⟨none, none, (.store false 1 (.s 26) (.s 25))⟩]) (.seq (.reg [⟨(some 27), none, (.load true 7 (.s 3))⟩, ⟨none, none, (.store true 7 (.s 2) (.s 27))⟩]) .ret))))))))))⟩
theorem p145 : prepF Try.prog 145 = some c145 := by kernel_rfl
def c146 : F := ⟨96, [(.tmp 2), (.tmp 3)], (.seq (.reg [⟨(some 1), none, (.box (.s 0))⟩, ⟨(some 2), none, (.mov (.c .zs))⟩, ⟨(some 3), none, (.mov (.c (.bool false)))⟩]) (.seq (.seq (.reg [⟨(some 9), none, (.fadr 0 (.s 1))⟩, ⟨(some 10), none, (.load false 1 (.s 9))⟩, ⟨(some 11), none, (.lenl (.s 10))⟩, ⟨(some 12), none, (.bin .lss (.s 11) (.c (.int 1)))⟩, ⟨(some 13), none, (.mov (.s 12))⟩, ⟨(some 14), (some (13, false)), (.fadr 0 (.s 1))⟩, ⟨(some 15), (some (13, false)), (.load false 1 (.s 14))⟩, ⟨(some 16), (some (13, false)), (.lenl (.s 15))⟩, ⟨(some 17), (some (13, false)), (.bin .gtr (.s 16) (.c (.int 2000)))⟩, ⟨(some 18), none, (.pick (.s 13) (.c (.bool true)) (.s 17))⟩]) (.cond (.s 18) (.seq (.reg [⟨(some 2), none, (.mov (.c .zs))⟩, ⟨(some 3), none, (.mov (.c (.bool false)))⟩]) .ret) .skip)) (.seq (.reg [⟨(some 19), none, (.fadr 0 (.s 1))⟩, ⟨(some 20), none, (.load false 1 (.s 19))⟩, ⟨(some 21), none, (.lenl (.s 20))⟩, ⟨(some 22), none, (.mks [(.int 0)] (.s 21))⟩, ⟨(some 4), none, (.alloc [(.e (.sl []))])⟩, ⟨none, none, (.store false 1 (.s 4) (.s 22))⟩]) (.seq (.seq (.reg [⟨(some 23), none, (.fadr 0 (.s 1))⟩, ⟨(some 24), none, (.load false 1 (.s 23))⟩, ⟨(some 25), none, (.lenl (.s 24))⟩, ⟨(some 26), none, (.mov (.c (.int 0)))⟩]) (.block 0 (.loop (.seq (.reg [⟨(some 27), none, (.bin .lss (.s 26) (.s 25))⟩]) (.seq (.cond (.s 27) .skip (.exit 0)) (.seq (.block 1 (.seq (.reg [⟨(some 28), none, (.mov (.s 26))⟩, ⟨(some 29), none, (.iadr none 7 (.s 24) (.s 26))⟩, ⟨(some 30), none, (.load true 7 (.s 29))⟩, ⟨(some 6), none, (.alloc [(.int 0), (.int 0), (.int 0), (.e (.sl [])), (.e (.sl [])), (.int 0), (.int 0)])⟩, ⟨(some 5), none, (.mov (.s 28))⟩, ⟨none, none, (.store true 7 (.s 6) (.s 30))⟩]) (.seq (.reg [⟨(some 31), none, (.mov (.s 5))⟩, ⟨(some 7), none, (.alloc [(.int 0)])⟩, ⟨none, none, (.store false 1 (.s 7) (.s 31))⟩]) (.seq (.reg [⟨(some 32), none, (.mkf (.func 187) [] [(.s 7), (.s 4)])⟩, ⟨(some 8), none, (.mov (.s 32))⟩]) (.seq (.seq (.reg [⟨(some 33), none, (.fadr 0 (.s 6))⟩, ⟨(some 34), none, (.load false 1 (.s 33))⟩, ⟨(some 35), none, (.bin .lss (.s 34) (.c (.int 1)))⟩, ⟨(some 36), none, (.mov (.s 35))⟩, ⟨(some 37), (some (36, false)), (.fadr 0 (.s 6))⟩, ⟨(some 38), (some (36, false)), (.load false 1 (.s 37))⟩, ⟨(some 39), (some (36, false)), (.bin .gtr (.s 38) (.c (.int 10)))⟩, ⟨(some 40), none, (.pick (.s 36) (.c (.bool true)) (.s 39))⟩]) (.cond (.s 40) (.seq (.reg [⟨(some 2), none, (.mov (.c .zs))⟩, ⟨(some 3), none, (.mov (.c (.bool false)))⟩]) .ret) .skip)) (.seq (.seq (.reg [⟨(some 41), none, (.fadr 0 (.s 6))⟩, ⟨(some 42), none, (.load false 1 (.s 41))⟩, ⟨(some 43), none, (.call 91 [(.s 42)])⟩, ⟨(some 44), none, (.mov (.s 43))⟩, ⟨(some 45), (some (44, true)), (.mov (.s 8))⟩, ⟨(some 46), (some (44, true)), (.fadr 6 (.s 6))⟩, ⟨(some 47), (some (44, true)), (.load false 1 (.s 46))⟩, ⟨(some 48), (some (44, true)), (.callv (.s 45) [(.s 47)])⟩, ⟨(some 49), (some (44, true)), (.un .not (.s 48))⟩, ⟨(some 50), none, (.pick (.s 44) (.s 49) (.c (.bool false)))⟩, ⟨(some 51), none, (.mov (.s 50))⟩, ⟨(some 52), (some (51, false)), (.fadr 0 (.s 6))⟩, ⟨(some 53), (some (51, false)), (.load false 1 (.s 52))⟩, ⟨(some 54), (some (51, false)), (.call 91 [(.s 53)])⟩, ⟨(some 55), (some (51, false)), (.un .not (.s 54))⟩, ⟨(some 56), (some (51, false)), (.mov (.s 55))⟩, ⟨(some 57), (some (56, true)), (.fadr 6 (.s 6))⟩, ⟨(some 58), (some (56, true)), (.load false 1 (.s 57))⟩, ⟨(some 59), (some (56, true)), (.bin .neq (.s 58) (.c (.int 0)))⟩, ⟨(some 60), (some (51, false)), (.pick (.s 56) (.s 59) (.c (.bool false)))⟩, ⟨(some 61), none, (.pick (.s 51) (.c (.bool true)) (.s 60))⟩]) (.cond (.s 61) (.seq (.reg [⟨(some 2), none, (.mov (.c .zs))⟩, ⟨(some 3), none, (.mov (.c (.bool false)))⟩]) .ret) .skip)) (.seq (.seq (.reg [⟨(some 62), none, (.fadr 0 (.s 6))⟩, ⟨(some 63), none, (.load false 1 (.s 62))⟩, ⟨(some 64), none, (.call 90 [(.s 63)])⟩, ⟨(some 65), none, (.mov (.s 64))⟩, ⟨(some 66), (some (65, true)), (.mov (.s 8))⟩, ⟨(some 67), (some (65, true)), (.fadr 5 (.s 6))⟩, ⟨(some 68), (some (65, true)), (.load false 1 (.s 67))⟩, ⟨(some 69), (some (65, true)), (.callv (.s 66) [(.s 68)])⟩, ⟨(some 70), (some (65, true)), (.un .not (.s 69))⟩, ⟨(some 71), none, (.pick (.s 65) (.s 70) (.c (.bool false)))⟩, ⟨(some 72), none, (.mov (.s 71))⟩, ⟨(some 73), (some (72, false)), (.fadr 0 (.s 6))⟩, ⟨(some 74), (some (72, false)), (.load false 1 (.s 73))⟩, ⟨(some 75), (some (72, false)), (.call 90 [(.s 74)])⟩, ⟨(some 76), (some (72, false)), (.un .not (.s 75))⟩, ⟨(some 77), (some (72, false)), (.mov (.s 76))⟩, ⟨(some 78), (some (77, true)), (.fadr 5 (.s 6))⟩, ⟨(some 79), (some (77, true)), (.load false 1 (.s 78))⟩, ⟨(some 80), (some (77, true)), (.bin .neq (.s 79) (.c (.int 0)))⟩, ⟨(some 81), (some (72, false)), (.pick (.s 77) (.s 80) (.c (.bool false)))⟩, ⟨(some 82), none, (.pick (.s 72) (.c (.bool true)) (.s 81))⟩]) (.cond (.s 82) (.seq (.reg [⟨(some 2), none, (.mov (.c .zs))⟩, ⟨(some 3), none, (.mov (.c (.bool false)))⟩]) .ret) .skip)) (.reg [⟨(some 83), none, (.load false 1 (.s 4))⟩, ⟨(some 84), none, (.mov (.s 5))⟩, ⟨(some 85), none, (.load false 1 (.s 7))⟩, ⟨(some 86), none, (.iadr none 1 (.s 83) (.s 84))⟩, ⟨none, none, (.store false 1 (.s 86) (.s 85))⟩])))))))) (.reg [⟨(some 87), none, (.bin .add (.s 26) (.c (.int 1)))⟩, ⟨(some 26), none, (.mov (.s 87))⟩]))))))) (.seq (.dreg [⟨⟨(some 88), none, (.load false 1 (.s 4))⟩, [], [4]⟩, ⟨⟨(some 89), none, (.load false 1 (.s 4))⟩, [0], [4]⟩, ⟨⟨(some 90), none, (.load false 1 (.s 4))⟩, [0, 1], [4]⟩, ⟨⟨(some 91), none, (.lenl (.s 90))⟩, [0, 1], [90]⟩, ⟨⟨(some 92), none, (.bin .sub (.s 91) (.c (.int 1)))⟩, [0, 1], [91]⟩, ⟨⟨(some 93), none, (.iadr none 1 (.s 89) (.s 92))⟩, [0], [89, 92]⟩, ⟨⟨(some 94), none, (.load false 1 (.s 93))⟩, [0], [93]⟩, ⟨⟨(some 95), none, (.bin .eql (.s 94) (.c (.int 0)))⟩, [0], [94]⟩, ⟨⟨(some 2), none, (.mov (.s 88))⟩, [1, 2, 3, 4, 5, 6, 7], [88]⟩, ⟨⟨(some 3), none, (.mov (.s 95))⟩, [], [95]⟩]) .ret)))))⟩
theorem p146 : prepF Try.prog 146 = some c146 := by kernel_rfl
def c147 : F := ⟨65, [(.tmp 6)], (.seq (.reg [⟨(some 3), none, (.box (.s 0))⟩, ⟨(some 6), none, (.mov (.c (.e (.v .nilIface))))⟩]) (.seq (.reg [⟨(some 12), none, (.fadr 0 (.s 3))⟩, ⟨(some 13), none, (.fadr 0 (.s 12))⟩, ⟨(some 14), none, (.load false 1 (.s 13))⟩, ⟨(some 15), none, (.mov (.s 1))⟩, ⟨(some 16), none, (.iadr none 7 (.s 14) (.s 15))⟩, ⟨(some 17), none, (.load true 7 (.s 16))⟩, ⟨(some 7), none, (.alloc [(.int 0), (.int 0), (.int 0), (.e (.sl [])), (.e (.sl [])), (.int 0), (.int 0)])⟩, ⟨none, none, (.store true 7 (.s 7) (.s 17))⟩]) (.seq (.seq (.reg [⟨(some 18), none, (.load true 7 (.s 7))⟩, ⟨(some 19), none, (.call 188 [(.s 18)])⟩, ⟨(some 20), none, (.un .not (.s 19))⟩]) (.cond (.s 20) (.seq (.reg [⟨(some 6), none, (.mov (.c (.e (.v .nilIface))))⟩]) .ret) .skip)) (.seq (.reg [⟨(some 8), none, (.mov (.c (.e (.v .nilIface))))⟩, ⟨(some 9), none, (.mov (.c (.e (.v .nilIface))))⟩]) (.seq (.seq (.reg [⟨(some 21), none, (.fadr 0 (.s 7))⟩, ⟨(some 22), none, (.load false 1 (.s 21))⟩, ⟨(some 23), none, (.call 90 [(.s 22)])⟩]) (.cond (.s 23) (.seq (.reg [⟨(some 24), none, (.load true 3 (.s 3))⟩, ⟨(some 25), none, (.fadr 5 (.s 7))⟩, ⟨(some 26), none, (.load false 1 (.s 25))⟩, ⟨(some 27), none, (.mov (.s 2))⟩, ⟨(some 28), none, (.call 147 [(.s 24), (.s 26), (.s 27)])⟩, ⟨(some 8), none, (.mov (.s 28))⟩]) (.seq (.reg [⟨(some 29), none, (.mov (.s 8))⟩, ⟨(some 30), none, (.isnilI false (.s 29))⟩]) (.cond (.s 30) (.seq (.reg [⟨(some 6), none, (.mov (.c (.e (.v .nilIface))))⟩]) .ret) .skip))) .skip)) (.seq (.seq (.reg [⟨(some 31), none, (.fadr 0 (.s 7))⟩, ⟨(some 32), none, (.load false 1 (.s 31))⟩, ⟨(some 33), none, (.call 91 [(.s 32)])⟩]) (.cond (.s 33) (.seq (.reg [⟨(some 34), none, (.mov (.s 2))⟩, ⟨(some 10), none, (.mov (.s 34))⟩]) (.seq (.seq (.reg [⟨(some 35), none, (.fadr 0 (.s 7))⟩, ⟨(some 36), none, (.load false 1 (.s 35))⟩, ⟨(some 37), none, (.call 92 [(.s 36)])⟩]) (.cond (.s 37) (.reg [⟨(some 38), none, (.mov (.s 10))⟩, ⟨(some 39), none, (.mov (.s 8))⟩, ⟨(some 40), none, (.invk "loop.example/s0035/impl.width" (.s 39) [])⟩, ⟨(some 41), none, (.bin .add (.s 38) (.s 40))⟩, ⟨(some 10), none, (.mov (.s 41))⟩]) .skip)) (.seq (.reg [⟨(some 42), none, (.load true 3 (.s 3))⟩, ⟨(some 43), none, (.fadr 6 (.s 7))⟩, ⟨(some 44), none, (.load false 1 (.s 43))⟩, ⟨(some 45), none, (.mov (.s 10))⟩, ⟨(some 46), none, (.call 147 [(.s 42), (.s 44), (.s 45)])⟩, ⟨(some 9), none, (.mov (.s 46))⟩]) (.seq (.reg [⟨(some 47), none, (.mov (.s 9))⟩, ⟨(some 48), none, (.isnilI false (.s 47))⟩]) (.cond (.s 48) (.seq (.reg [⟨(some 6), none, (.mov (.c (.e (.v .nilIface))))⟩]) .ret) .skip))))) .skip)) (.seq (.reg [⟨(some 49), none, (.load true 3 (.s 3))⟩, ⟨(some 50), none, (.load true 7 (.s 7))⟩, ⟨(some 51), none, (.mov (.s 2))⟩, ⟨(some 52), none, (.mov (.s 8))⟩, ⟨(some 53), none, (.mov (.s 9))⟩, ⟨(some 54), none, (.call 189 [(.s 49), (.s 50), (.s 51), (.s 52), (.s 53)])⟩, ⟨(some 11), none, (.mov (.s 54))⟩]) (.seq (.seq (.reg [⟨(some 55), none, (.mov (.s 11))⟩, ⟨(some 56), none, (.isnilI false (.s 55))⟩, ⟨(some 57), none, (.mov (.s 56))⟩, ⟨(some 58), (some (57, false)), (.mov (.s 11))⟩, ⟨(some 59), (some (57, false)), (.invk "loop.example/s0035/impl.width" (.s 58) [])⟩, ⟨(some 60), (some (57, false)), (.mov (.s 2))⟩, ⟨(some 61), (some (57, false)), (.bin .add (.s 59) (.s 60))⟩, ⟨(some 62), (some (57, false)), (.bin .gtr (.s 61) (.c (.int 200)))⟩, ⟨(some 63), none, (.pick (.s 57) (.c (.bool true)) (.s 62))⟩]) (.cond (.s 63) (.seq (.reg [⟨(some 6), none, (.mov (.c (.e (.v .nilIface))))⟩]) .ret) .skip)) (.seq (.reg [⟨(some 64), none, (.mov (.s 11))⟩, ⟨(some 6), none, (.mov (.s 64))⟩]) .ret)))))))))⟩
theorem p147 : prepF Try.prog 147 = some c147 := by kernel_rfl
def c148 : F := ⟨42, [(.tmp 4)], (.seq (.reg [⟨(some 2), none, (.box (.s 0))⟩, ⟨(some 3), none, (.box (.s 1))⟩, ⟨(some 4), none, (.mov (.c (.bool false)))⟩]) (.seq (.seq (.reg [⟨(some 5), none, (.fadr 0 (.s 2))⟩, ⟨(some 6), none, (.load false 1 (.s 5))⟩, ⟨(some 7), none, (.fadr 0 (.s 3))⟩, ⟨(some 8), none, (.load false 1 (.s 7))⟩, ⟨(some 9), none, (.bin .neq (.s 6) (.s 8))⟩]) (.cond (.s 9) (.seq (.reg [⟨(some 4), none, (.mov (.c (.bool false)))⟩]) .ret) .skip)) (.seq (.seq (.reg [⟨(some 10), none, (.fadr 1 (.s 2))⟩, ⟨(some 11), none, (.load false 1 (.s 10))⟩, ⟨(some 12), none, (.fadr 1 (.s 3))⟩, ⟨(some 13), none, (.load false 1 (.s 12))⟩, ⟨(some 14), none, (.bin .neq (.s 11) (.s 13))⟩]) (.cond (.s 14) (.seq (.reg [⟨(some 4), none, (.mov (.c (.bool false)))⟩]) .ret) .skip)) (.seq (.seq (.reg [⟨(some 15), none, (.fadr 2 (.s 2))⟩, ⟨(some 16), none, (.load false 1 (.s 15))⟩, ⟨(some 17), none, (.fadr 2 (.s 3))⟩, ⟨(some 18), none, (.load false 1 (.s 17))⟩, ⟨(some 19), none, (.bin .neq (.s 16) (.s 18))⟩]) (.cond (.s 19) (.seq (.reg [⟨(some 4), none, (.mov (.c (.bool false)))⟩]) .ret) .skip)) (.seq (.seq (.reg [⟨(some 20), none, (.fadr 3 (.s 2))⟩, ⟨(some 21), none, (.load false 1 (.s 20))⟩, ⟨(some 22), none, (.fadr 3 (.s 3))⟩, ⟨(some 23), none, (.load false 1 (.s 22))⟩, ⟨(some 24), none, (.call 184 [(.s 21), (.s 23)])⟩, ⟨(some 25), none, (.un .not (.s 24))⟩]) (.cond (.s 25) (.seq (.reg [⟨(some 4), none, (.mov (.c (.bool false)))⟩]) .ret) .skip)) (.seq (.seq (.reg [⟨(some 26), none, (.fadr 4 (.s 2))⟩, ⟨(some 27), none, (.load false 1 (.s 26))⟩, ⟨(some 28), none, (.fadr 4 (.s 3))⟩, ⟨(some 29), none, (.load false 1 (.s 28))⟩, ⟨(some 30), none, (.call 185 [(.s 27), (.s 29)])⟩, ⟨(some 31), none, (.un .not (.s 30))⟩]) (.cond (.s 31) (.seq (.reg [⟨(some 4), none, (.mov (.c (.bool false)))⟩]) .ret) .skip)) (.seq (.seq (.reg [⟨(some 32), none, (.fadr 5 (.s 2))⟩, ⟨(some 33), none, (.load false 1 (.s 32))⟩, ⟨(some 34), none, (.fadr 5 (.s 3))⟩, ⟨(some 35), none, (.load false 1 (.s 34))⟩, ⟨(some 36), none, (.bin .neq (.s 33) (.s 35))⟩]) (.cond (.s 36) (.seq (.reg [⟨(some 4), none, (.mov (.c (.bool false)))⟩]) .ret) .skip)) (.seq (.seq (.reg [⟨(some 37), none, (.fadr 6 (.s 2))⟩, ⟨(some 38), none, (.load false 1 (.s 37))⟩, ⟨(some 39), none, (.fadr 6 (.s 3))⟩, ⟨(some 40), none, (.load false 1 (.s 39))⟩, ⟨(some 41), none, (.bin .neq (.s 38) (.s 40))⟩]) (.cond (.s 41) (.seq (.reg [⟨(some 4), none, (.mov (.c (.bool false)))⟩]) .ret) .skip)) (.seq (.reg [⟨(some 4), none, (.mov (.c (.bool true)))⟩]) .ret)))))))))⟩
theorem p148 : prepF Try.prog 148 = some c148 := by kernel_rfl
def c187 : F := ⟨17, [(.tmp 4)], (.seq (.reg [⟨(some 4), none, (.mov (.c (.bool false)))⟩]) (.seq (.seq (.reg [⟨(some 5), none, (.load false 1 (.s 1))⟩, ⟨(some 6), none, (.bin .lss (.s 5) (.c (.int 1)))⟩, ⟨(some 7), none, (.mov (.s 6))⟩, ⟨(some 8), (some (7, false)), (.mov (.s 0))⟩, ⟨(some 9), (some (7, false)), (.load false 1 (.s 1))⟩, ⟨(some 10), (some (7, false)), (.bin .sub (.s 9) (.c (.int 1)))⟩, ⟨(some 11), (some (7, false)), (.bin .neq (.s 8) (.s 10))⟩, ⟨(some 12), none, (.pick (.s 7) (.c (.bool true)) (.s 11))⟩]) (.cond (.s 12) (.seq (.reg [⟨(some 4), none, (.mov (.c (.bool false)))⟩]) .ret) .skip)) (.seq (.reg [⟨(some 13), none, (.load false 1 (.s 2))⟩, ⟨(some 14), none, (.mov (.s 0))⟩, ⟨(some 15), none, (.iadr none 1 (.s 13) (.s 14))⟩, ⟨(some 16), none, (.load false 1 (.s 15))⟩, ⟨none, none, (.store false 1 (.s 1) (.s 16))⟩]) (.seq (.reg [⟨(some 4), none, (.mov (.c (.bool true)))⟩]) .ret))))⟩
theorem p187 : prepF Try.prog 187 = some c187 := by kernel_rfl
def c188 : F := ⟨74, [(.tmp 2)], (.seq (.reg [⟨(some 1), none, (.box (.s 0))⟩, ⟨(some 2), none, (.mov (.c (.bool false)))⟩]) (.seq (.reg [⟨(some 4), none, (.fadr 0 (.s 1))⟩, ⟨(some 5), none, (.load false 1 (.s 4))⟩, ⟨(some 6), none, (.bin .eql (.s 5) (.c (.int 3)))⟩, ⟨(some 7), none, (.mov (.s 6))⟩, ⟨(some 8), (some (7, false)), (.fadr 0 (.s 1))⟩, ⟨(some 9), (some (7, false)), (.load false 1 (.s 8))⟩, ⟨(some 10), (some (7, false)), (.bin .eql (.s 9) (.c (.int 7)))⟩, ⟨(some 11), none, (.pick (.s 7) (.c (.bool true)) (.s 10))⟩, ⟨(some 12), none, (.mov (.s 11))⟩, ⟨(some 13), (some (12, false)), (.fadr 0 (.s 1))⟩, ⟨(some 14), (some (12, false)), (.load false 1 (.s 13))⟩, ⟨(some 15), (some (12, false)), (.bin .eql (.s 14) (.c (.int 8)))⟩, ⟨(some 16), (some (12, false)), (.mov (.s 15))⟩, ⟨(some 17), (some (16, true)), (.fadr 2 (.s 1))⟩, ⟨(some 18), (some (16, true)), (.load false 1 (.s 17))⟩, ⟨(some 19), (some (16, true)), (.bin .gtr (.s 18) (.c (.int 1)))⟩, ⟨(some 20), (some (12, false)), (.pick (.s 16) (.s 19) (.c (.bool false)))⟩, ⟨(some 21), none, (.pick (.s 12) (.c (.bool true)) (.s 20))⟩, ⟨(some 3), none, (.mov (.s 21))⟩]) (.seq (.seq (.reg [⟨(some 22), none, (.fadr 0 (.s 1))⟩, ⟨(some 23), none, (.load false 1 (.s 22))⟩, ⟨(some 24), none, (.bin .neq (.s 23) (.c (.int 2)))⟩, ⟨(some 25), none, (.mov (.s 24))⟩, ⟨(some 26), (some (25, true)), (.fadr 1 (.s 1))⟩, ⟨(some 27), (some (25, true)), (.load false 1 (.s 26))⟩, ⟨(some 28), (some (25, true)), (.bin .neq (.s 27) (.c (.int 0)))⟩, ⟨(some 29), none, (.pick (.s 25) (.s 28) (.c (.bool false)))⟩, ⟨(some 30), none, (.mov (.s 29))⟩, ⟨(some 31), (some (30, false)), (.fadr 0 (.s 1))⟩, ⟨(some 32), (some (30, false)), (.load false 1 (.s 31))⟩, ⟨(some 33), (some (30, false)), (.bin .neq (.s 32) (.c (.int 8)))⟩, ⟨(some 34), (some (30, false)), (.mov (.s 33))⟩, ⟨(some 35), (some (34, true)), (.fadr 2 (.s 1))⟩, ⟨(some 36), (some (34, true)), (.load false 1 (.s 35))⟩, ⟨(some 37), (some (34, true)), (.bin .neq (.s 36) (.c (.int 0)))⟩, ⟨(some 38), (some (30, false)), (.pick (.s 34) (.s 37) (.c (.bool false)))⟩, ⟨(some 39), none, (.pick (.s 30) (.c (.bool true)) (.s 38))⟩, ⟨(some 40), none, (.mov (.s 39))⟩, ⟨(some 41), (some (40, false)), (.mov (.s 3))⟩, ⟨(some 42), (some (40, false)), (.un .not (.s 41))⟩, ⟨(some 43), (some (40, false)), (.mov (.s 42))⟩, ⟨(some 44), (some (43, true)), (.fadr 3 (.s 1))⟩, ⟨(some 45), (some (43, true)), (.load false 1 (.s 44))⟩, ⟨(some 46), (some (43, true)), (.lenl (.s 45))⟩, ⟨(some 47), (some (43, true)), (.bin .gtr (.s 46) (.c (.int 0)))⟩, ⟨(some 48), (some (40, false)), (.pick (.s 43) (.s 47) (.c (.bool false)))⟩, ⟨(some 49), none, (.pick (.s 40) (.c (.bool true)) (.s 48))⟩, ⟨(some 50), none, (.mov (.s 49))⟩, ⟨(some 51), (some (50, false)), (.fadr 0 (.s 1))⟩, ⟨(some 52), (some (50, false)), (.load false 1 (.s 51))⟩, ⟨(some 53), (some (50, false)), (.bin .neq (.s 52) (.c (.int 4)))⟩, ⟨(some 54), (some (50, false)), (.mov (.s 53))⟩, ⟨(some 55), (some (54, true)), (.fadr 4 (.s 1))⟩, ⟨(some 56), (some (54, true)), (.load false 1 (.s 55))⟩, ⟨(some 57), (some (54, true)), (.lenl (.s 56))⟩, ⟨(some 58), (some (54, true)), (.bin .gtr (.s 57) (.c (.int 0)))⟩, ⟨(some 59), (some (50, false)), (.pick (.s 54) (.s 58) (.c (.bool false)))⟩, ⟨(some 60), none, (.pick (.s 50) (.c (.bool true)) (.s 59))⟩]) (.cond (.s 60) (.seq (.reg [⟨(some 2), none, (.mov (.c (.bool false)))⟩]) .ret) .skip)) (.seq (.reg [⟨(some 61), none, (.fadr 0 (.s 1))⟩, ⟨(some 62), none, (.load false 1 (.s 61))⟩, ⟨(some 63), none, (.bin .neq (.s 62) (.c (.int 8)))⟩, ⟨(some 64), none, (.mov (.s 63))⟩, ⟨(some 65), (some (64, false)), (.fadr 2 (.s 1))⟩, ⟨(some 66), (some (64, false)), (.load false 1 (.s 65))⟩, ⟨(some 67), (some (64, false)), (.bin .geq (.s 66) (.c (.int 1)))⟩, ⟨(some 68), (some (64, false)), (.mov (.s 67))⟩, ⟨(some 69), (some (68, true)), (.fadr 2 (.s 1))⟩, ⟨(some 70), (some (68, true)), (.load false 1 (.s 69))⟩, ⟨(some 71), (some (68, true)), (.bin .leq (.s 70) (.c (.int 4)))⟩, ⟨(some 72), (some (64, false)), (.pick (.s 68) (.s 71) (.c (.bool false)))⟩, ⟨(some 73), none, (.pick (.s 64) (.c (.bool true)) (.s 72))⟩, ⟨(some 2), none, (.mov (.s 73))⟩]) .ret))))⟩
theorem p188 : prepF Try.prog 188 = some c188 := by kernel_rfl
def c189 : F := ⟨135, [(.tmp 10)], (.seq (.reg [⟨(some 5), none, (.box (.s 0))⟩, ⟨(some 6), none, (.box (.s 1))⟩, ⟨(some 7), none, (.box (.s 2))⟩, ⟨(some 8), none, (.box (.s 3))⟩, ⟨(some 10), none, (.mov (.c (.e (.v .nilIface))))⟩]) (.seq (.seq (.reg [⟨(some 11), none, (.fadr 0 (.s 6))⟩, ⟨(some 12), none, (.load false 1 (.s 11))⟩]) (.block 0 (.seq (.reg [⟨(some 14), none, (.bin .eql (.s 12) (.c (.int 1)))⟩, ⟨(some 13), none, (.mov (.s 14))⟩]) (.cond (.s 13) (.seq (.reg [⟨(some 15), none, (.build [] [])⟩, ⟨(some 16), none, (.mki 228 (.s 15))⟩, ⟨(some 10), none, (.mov (.s 16))⟩]) .ret) (.seq (.reg [⟨(some 18), none, (.bin .eql (.s 12) (.c (.int 2)))⟩, ⟨(some 17), none, (.mov (.s 18))⟩]) (.cond (.s 17) (.seq (.seq (.reg [⟨(some 19), none, (.fadr 1 (.s 6))⟩, ⟨(some 20), none, (.load false 1 (.s 19))⟩, ⟨(some 21), none, (.bin .lss (.s 20) (.c (.int 0)))⟩, ⟨(some 22), none, (.mov (.s 21))⟩, ⟨(some 23), (some (22, false)), (.fadr 1 (.s 6))⟩, ⟨(some 24), (some (22, false)), (.load false 1 (.s 23))⟩, ⟨(some 25), (some (22, false)), (.fadr 1 (.s 5))⟩, ⟨(some 26), (some (22, false)), (.fadr 0 (.s 25))⟩, ⟨(some 27), (some (22, false)), (.load false 1 (.s 26))⟩, ⟨(some 28), (some (22, false)), (.lenl (.s 27))⟩, ⟨(some 29), (some (22, false)), (.bin .geq (.s 24) (.s 28))⟩, ⟨(some 30), none, (.pick (.s 22) (.c (.bool true)) (.s 29))⟩]) (.cond (.s 30) (.seq (.reg [⟨(some 10), none, (.mov (.c (.e (.v .nilIface))))⟩]) .ret) .skip)) (.seq (.reg [⟨(some 31), none, (.fadr 1 (.s 5))⟩, ⟨(some 32), none, (.fadr 0 (.s 31))⟩, ⟨(some 33), none, (.load false 1 (.s 32))⟩, ⟨(some 34), none, (.fadr 1 (.s 6))⟩, ⟨(some 35), none, (.load false 1 (.s 34))⟩, ⟨(some 36), none, (.iadr none 3 (.s 33) (.s 35))⟩, ⟨(some 37), none, (.load true 3 (.s 36))⟩, ⟨(some 38), none, (.build [(.str []), (.int 0), (.e (.sl []))] [(0, (3, (.s 37)))])⟩, ⟨(some 39), none, (.mki 230 (.s 38))⟩, ⟨(some 10), none, (.mov (.s 39))⟩]) .ret)) (.seq (.reg [⟨(some 41), none, (.bin .eql (.s 12) (.c (.int 3)))⟩, ⟨(some 40), none, (.mov (.s 41))⟩]) (.cond (.s 40) (.seq (.dreg [⟨⟨(some 42), none, (.fadr 3 (.s 6))⟩, [], [6]⟩, ⟨⟨(some 43), none, (.load false 1 (.s 42))⟩, [], [42]⟩, ⟨⟨(some 44), none, (.load false 1 (.s 7))⟩, [0, 1], [7]⟩, ⟨⟨(some 45), none, (.load false 1 (.s 8))⟩, [0, 1, 2], [8]⟩, ⟨⟨(some 46), none, (.invk "loop.example/s0035/impl.width" (.s 45) [])⟩, [0, 1, 2], [45]⟩, ⟨⟨(some 47), none, (.bin .add (.s 44) (.s 46))⟩, [0, 1], [44, 46]⟩, ⟨⟨(some 48), none, (.call 181 [(.s 43), (.s 47)])⟩, [], [43, 47]⟩]) (.cond (.s 48) (.seq (.reg [⟨(some 49), none, (.fadr 3 (.s 6))⟩, ⟨(some 50), none, (.load false 1 (.s 49))⟩, ⟨(some 51), none, (.load false 1 (.s 8))⟩, ⟨(some 52), none, (.build [(.e (.sl [])), (.e (.v .nilIface))] [(0, (1, (.s 50))), (1, (1, (.s 51)))])⟩, ⟨(some 53), none, (.mki 232 (.s 52))⟩, ⟨(some 10), none, (.mov (.s 53))⟩]) .ret) .skip)) (.seq (.reg [⟨(some 55), none, (.bin .eql (.s 12) (.c (.int 4)))⟩, ⟨(some 54), none, (.mov (.s 55))⟩]) (.cond (.s 54) (.seq (.reg [⟨(some 56), none, (.fadr 4 (.s 6))⟩, ⟨(some 57), none, (.load false 1 (.s 56))⟩, ⟨(some 58), none, (.mkf (.func 199) [] [(.s 7), (.s 8)])⟩, ⟨(some 59), none, (.call 182 [(.s 57), (.s 58)])⟩, ⟨(some 60), none, (.un .not (.s 59))⟩]) (.cond (.s 60) (.seq (.reg [⟨(some 61), none, (.fadr 4 (.s 6))⟩, ⟨(some 62), none, (.load false 1 (.s 61))⟩, ⟨(some 63), none, (.load false 1 (.s 8))⟩, ⟨(some 64), none, (.build [(.e (.sl [])), (.e (.v .nilIface))] [(0, (1, (.s 62))), (1, (1, (.s 63)))])⟩, ⟨(some 65), none, (.mki 234 (.s 64))⟩, ⟨(some 10), none, (.mov (.s 65))⟩]) .ret) .skip)) (.seq (.seq (.reg [⟨(some 67), none, (.bin .eql (.s 12) (.c (.int 5)))⟩, ⟨(some 66), none, (.mov (.s 67))⟩]) (.cond (.s 66) .skip (.reg [⟨(some 68), none, (.bin .eql (.s 12) (.c (.int 6)))⟩, ⟨(some 66), none, (.mov (.s 68))⟩]))) (.cond (.s 66) (.seq (.reg [⟨(some 69), none, (.load false 1 (.s 8))⟩, ⟨(some 70), none, (.mov (.s 4))⟩, ⟨(some 71), none, (.fadr 0 (.s 6))⟩, ⟨(some 72), none, (.load false 1 (.s 71))⟩, ⟨(some 73), none, (.bin .eql (.s 72) (.c (.int 6)))⟩, ⟨(some 74), none, (.build [(.e (.v .nilIface)), (.e (.v .nilIface)), (.bool false)] [(0, (1, (.s 69))), (1, (1, (.s 70))), (2, (1, (.s 73)))])⟩, ⟨(some 75), none, (.mki 236 (.s 74))⟩, ⟨(some 10), none, (.mov (.s 75))⟩]) .ret) (.seq (.reg [⟨(some 77), none, (.bin .eql (.s 12) (.c (.int 7)))⟩, ⟨(some 76), none, (.mov (.s 77))⟩]) (.cond (.s 76) (.seq (.dreg [⟨⟨(some 78), none, (.fadr 3 (.s 6))⟩, [], [6]⟩, ⟨⟨(some 79), none, (.load false 1 (.s 78))⟩, [], [78]⟩, ⟨⟨(some 80), none, (.load false 1 (.s 7))⟩, [0, 1], [7]⟩, ⟨⟨(some 81), none, (.load false 1 (.s 8))⟩, [0, 1, 2], [8]⟩, ⟨⟨(some 82), none, (.invk "loop.example/s0035/impl.width" (.s 81) [])⟩, [0, 1, 2], [81]⟩, ⟨⟨(some 83), none, (.bin .add (.s 80) (.s 82))⟩, [0, 1], [80, 82]⟩, ⟨⟨(some 84), none, (.mov (.s 4))⟩, [0, 1, 2, 3, 4, 5], [4]⟩, ⟨⟨(some 85), none, (.invk "loop.example/s0035/impl.width" (.s 84) [])⟩, [0, 1, 2, 5], [84]⟩, ⟨⟨(some 86), none, (.bin .add (.s 83) (.s 85))⟩, [0, 1], [83, 85]⟩, ⟨⟨(some 87), none, (.call 181 [(.s 79), (.s 86)])⟩, [], [79, 86]⟩]) (.cond (.s 87) (.seq (.reg [⟨(some 88), none, (.fadr 3 (.s 6))⟩, ⟨(some 89), none, (.load false 1 (.s 88))⟩, ⟨(some 90), none, (.load false 1 (.s 8))⟩, ⟨(some 91), none, (.mov (.s 4))⟩, ⟨(some 92), none, (.build [(.e (.sl [])), (.e (.v .nilIface)), (.e (.v .nilIface))] [(0, (1, (.s 89))), (1, (1, (.s 90))), (2, (1, (.s 91)))])⟩, ⟨(some 93), none, (.mki 238 (.s 92))⟩, ⟨(some 10), none, (.mov (.s 93))⟩]) .ret) .skip)) (.seq (.reg [⟨(some 95), none, (.bin .eql (.s 12) (.c (.int 8)))⟩, ⟨(some 94), none, (.mov (.s 95))⟩]) (.cond (.s 94) (.seq (.dreg [⟨⟨(some 96), none, (.fadr 2 (.s 6))⟩, [], [6]⟩, ⟨⟨(some 97), none, (.load false 1 (.s 96))⟩, [], [96]⟩, ⟨⟨(some 98), none, (.bin .eql (.s 97) (.c (.int 1)))⟩, [], [97]⟩, ⟨⟨(some 99), none, (.mov (.s 98))⟩, [], [98]⟩, ⟨⟨(some 100), (some (99, false)), (.fadr 3 (.s 6))⟩, [], [6, 99]⟩, ⟨⟨(some 101), (some (99, false)), (.load false 1 (.s 100))⟩, [], [100, 99]⟩, ⟨⟨(some 102), (some (99, false)), (.load false 1 (.s 7))⟩, [4, 5], [7, 99]⟩, ⟨⟨(some 103), (some (99, false)), (.load false 1 (.s 8))⟩, [4, 5, 6], [8, 99]⟩, ⟨⟨(some 104), (some (99, false)), (.invk "loop.example/s0035/impl.width" (.s 103) [])⟩, [4, 5, 6], [103, 99]⟩, ⟨⟨(some 105), (some (99, false)), (.bin .add (.s 102) (.s 104))⟩, [4, 5], [102, 104, 99]⟩, ⟨⟨(some 106), (some (99, false)), (.mov (.s 4))⟩, [4, 5, 6, 7, 8, 9], [4, 99]⟩, ⟨⟨(some 107), (some (99, false)), (.invk "loop.example/s0035/impl.width" (.s 106) [])⟩, [4, 5, 6, 9], [106, 99]⟩, ⟨⟨(some 108), (some (99, false)), (.bin .add (.s 105) (.s 107))⟩, [4, 5], [105, 107, 99]⟩, ⟨⟨(some 109), (some (99, false)), (.call 181 [(.s 101), (.s 108)])⟩, [], [101, 108, 99]⟩, ⟨⟨(some 110), none, (.pick (.s 99) (.c (.bool true)) (.s 109))⟩, [], [99, 109]⟩]) (.cond (.s 110) (.seq (.reg [⟨(some 111), none, (.fadr 2 (.s 6))⟩, ⟨(some 112), none, (.load false 1 (.s 111))⟩, ⟨(some 113), none, (.fadr 3 (.s 6))⟩, ⟨(some 114), none, (.load false 1 (.s 113))⟩, ⟨(some 115), none, (.load false 1 (.s 8))⟩, ⟨(some 116), none, (.mov (.s 4))⟩, ⟨(some 117), none, (.build [(.int 0), (.e (.sl [])), (.e (.v .nilIface)), (.e (.v .nilIface))] [(0, (1, (.s 112))), (1, (1, (.s 114))), (2, (1, (.s 115))), (3, (1, (.s 116)))])⟩, ⟨(some 118), none, (.mki 240 (.s 117))⟩, ⟨(some 10), none, (.mov (.s 118))⟩]) .ret) .skip)) (.seq (.reg [⟨(some 120), none, (.bin .eql (.s 12) (.c (.int 9)))⟩, ⟨(some 119), none, (.mov (.s 120))⟩]) (.cond (.s 119) (.seq (.reg [⟨(some 121), none, (.load false 1 (.s 8))⟩, ⟨(some 122), none, (.build [(.e (.v .nilIface))] [(0, (1, (.s 121)))])⟩, ⟨(some 123), none, (.mki 242 (.s 122))⟩, ⟨(some 10), none, (.mov (.s 123))⟩]) .ret) (.seq (.reg [⟨(some 125), none, (.bin .eql (.s 12) (.c (.int 10)))⟩, ⟨(some 124), none, (.mov (.s 125))⟩]) (.cond (.s 124) (.seq (.reg [⟨(some 126), none, (.load false 1 (.s 8))⟩, ⟨(some 127), none, (.invk "loop.example/s0035/impl.width" (.s 126) [])⟩, ⟨(some 128), none, (.mov (.s 4))⟩, ⟨(some 129), none, (.invk "loop.example/s0035/impl.width" (.s 128) [])⟩, ⟨(some 130), none, (.bin .eql (.s 127) (.s 129))⟩]) (.cond (.s 130) (.seq (.reg [⟨(some 131), none, (.load false 1 (.s 8))⟩, ⟨(some 132), none, (.mov (.s 4))⟩, ⟨(some 133), none, (.build [(.e (.v .nilIface)), (.e (.v .nilIface))] [(0, (1, (.s 131))), (1, (1, (.s 132)))])⟩, ⟨(some 134), none, (.mki 244 (.s 133))⟩, ⟨(some 10), none, (.mov (.s 134))⟩]) .ret) .skip)) .skip)))))))))))))))))))) (.seq (.reg [⟨(some 10), none, (.mov (.c (.e (.v .nilIface))))⟩]) .ret)))⟩
theorem p189 : prepF Try.prog 189 = some c189 := by kernel_rfl
def c199 : F := ⟨12, [(.tmp 4)], (.seq (.reg [⟨(some 4), none, (.mov (.c (.bool false)))⟩]) (.seq (.dreg [⟨⟨(some 5), none, (.mov (.s 0))⟩, [], [0]⟩, ⟨⟨(some 6), none, (.load false 1 (.s 1))⟩, [0], [1]⟩, ⟨⟨(some 7), none, (.load false 1 (.s 2))⟩, [0, 1], [2]⟩, ⟨⟨(some 8), none, (.invk "loop.example/s0035/impl.width" (.s 7) [])⟩, [0, 1], [7]⟩, ⟨⟨(some 9), none, (.bin .add (.s 6) (.s 8))⟩, [0], [6, 8]⟩, ⟨⟨(some 10), none, (.call 181 [(.s 5), (.s 9)])⟩, [], [5, 9]⟩, ⟨⟨(some 11), none, (.un .not (.s 10))⟩, [], [10]⟩, ⟨⟨(some 4), none, (.mov (.s 11))⟩, [], [11]⟩]) .ret))⟩
theorem p199 : prepF Try.prog 199 = some c199 := by kernel_rfl
def c218 : F := ⟨3, [(.tmp 2)], (.seq (.reg [⟨(some 1), none, (.box (.s 0))⟩, ⟨(some 2), none, (.mov (.c (.int 0)))⟩]) (.seq (.reg [⟨(some 2), none, (.mov (.c (.int 0)))⟩]) .ret))⟩
theorem p218 : prepF Try.prog 218 = some c218 := by kernel_rfl
def c220 : F := ⟨6, [(.tmp 2)], (.seq (.reg [⟨(some 1), none, (.box (.s 0))⟩, ⟨(some 2), none, (.mov (.c (.int 0)))⟩]) (.seq (.reg [⟨(some 3), none, (.fadr 0 (.s 1))⟩, ⟨(some 4), none, (.fadr 1 (.s 3))⟩, ⟨(some 5), none, (.load false 1 (.s 4))⟩, ⟨(some 2), none, (.mov (.s 5))⟩]) .ret))⟩
theorem p220 : prepF Try.prog 220 = some c220 := by kernel_rfl
def c222 : F := ⟨6, [(.tmp 2)], (.seq (.reg [⟨(some 1), none, (.box (.s 0))⟩, ⟨(some 2), none, (.mov (.c (.int 0)))⟩]) (.seq (.reg [⟨(some 3), none, (.fadr 1 (.s 1))⟩, ⟨(some 4), none, (.load false 1 (.s 3))⟩, ⟨(some 5), none, (.invk "loop.example/s0035/impl.width" (.s 4) [])⟩, ⟨(some 2), none, (.mov (.s 5))⟩]) .ret))⟩
theorem p222 : prepF Try.prog 222 = some c222 := by kernel_rfl
def c224 : F := ⟨6, [(.tmp 2)], (.seq (.reg [⟨(some 1), none, (.box (.s 0))⟩, ⟨(some 2), none, (.mov (.c (.int 0)))⟩]) (.seq (.reg [⟨(some 3), none, (.fadr 0 (.s 1))⟩, ⟨(some 4), none, (.load false 1 (.s 3))⟩, ⟨(some 5), none, (.lenl (.s 4))⟩, ⟨(some 2), none, (.mov (.s 5))⟩]) .ret))⟩
theorem p224 : prepF Try.prog 224 = some c224 := by kernel_rfl
def c226 : F := ⟨10, [(.tmp 2)], (.seq (.reg [⟨(some 1), none, (.box (.s 0))⟩, ⟨(some 2), none, (.mov (.c (.int 0)))⟩]) (.seq (.dreg [⟨⟨(some 3), none, (.fadr 0 (.s 1))⟩, [], [1]⟩, ⟨⟨(some 4), none, (.load false 1 (.s 3))⟩, [], [3]⟩, ⟨⟨(some 5), none, (.invk "loop.example/s0035/impl.width" (.s 4) [])⟩, [], [4]⟩, ⟨⟨(some 6), none, (.fadr 1 (.s 1))⟩, [0, 1, 2], [1]⟩, ⟨⟨(some 7), none, (.load false 1 (.s 6))⟩, [0, 1, 2], [6]⟩, ⟨⟨(some 8), none, (.invk "loop.example/s0035/impl.width" (.s 7) [])⟩, [], [7]⟩, ⟨⟨(some 9), none, (.bin .add (.s 5) (.s 8))⟩, [], [5, 8]⟩, ⟨⟨(some 2), none, (.mov (.s 9))⟩, [], [9]⟩]) .ret))⟩
theorem p226 : prepF Try.prog 226 = some c226 := by kernel_rfl
def c228 : F := ⟨7, [(.tmp 2)], (.seq (.reg [⟨(some 1), none, (.box (.s 0))⟩, ⟨(some 2), none, (.mov (.c (.int 0)))⟩]) (.seq (.reg [⟨(some 3), none, (.fadr 1 (.s 1))⟩, ⟨(some 4), none, (.load false 1 (.s 3))⟩, ⟨(some 5), none, (.invk "loop.example/s0035/impl.width" (.s 4) [])⟩, ⟨(some 6), none, (.bin .add (.s 5) (.c (.int 1)))⟩, ⟨(some 2), none, (.mov (.s 6))⟩]) .ret))⟩
theorem p228 : prepF Try.prog 228 = some c228 := by kernel_rfl
def c230 : F := ⟨7, [(.tmp 2)], (.seq (.reg [⟨(some 1), none, (.box (.s 0))⟩, ⟨(some 2), none, (.mov (.c (.int 0)))⟩]) (.seq (.reg [⟨(some 3), none, (.fadr 2 (.s 1))⟩, ⟨(some 4), none, (.load false 1 (.s 3))⟩, ⟨(some 5), none, (.invk "loop.example/s0035/impl.width" (.s 4) [])⟩, ⟨(some 6), none, (.bin .add (.s 5) (.c (.int 1)))⟩, ⟨(some 2), none, (.mov (.s 6))⟩]) .ret))⟩
theorem p230 : prepF Try.prog 230 = some c230 := by kernel_rfl
def c232 : F := ⟨6, [(.tmp 2)], (.seq (.reg [⟨(some 1), none, (.box (.s 0))⟩, ⟨(some 2), none, (.mov (.c (.int 0)))⟩]) (.seq (.reg [⟨(some 3), none, (.fadr 0 (.s 1))⟩, ⟨(some 4), none, (.load false 1 (.s 3))⟩, ⟨(some 5), none, (.invk "loop.example/s0035/impl.width" (.s 4) [])⟩, ⟨(some 2), none, (.mov (.s 5))⟩]) .ret))⟩
theorem p232 : prepF Try.prog 232 = some c232 := by kernel_rfl
def c234 : F := ⟨6, [(.tmp 2)], (.seq (.reg [⟨(some 1), none, (.box (.s 0))⟩, ⟨(some 2), none, (.mov (.c (.int 0)))⟩]) (.seq (.reg [⟨(some 3), none, (.fadr 0 (.s 1))⟩, ⟨(some 4), none, (.load false 1 (.s 3))⟩, ⟨(some 5), none, (.invk "loop.example/s0035/impl.width" (.s 4) [])⟩, ⟨(some 2), none, (.mov (.s 5))⟩]) .ret))⟩
theorem p234 : prepF Try.prog 234 = some c234 := by kernel_rfl
end Go.Proofs.Ytfplalbognalkaa.Ab
/- Plans: the widths of operators. -/
namespace Go.Proofs.Ytfplalbognalkaa.Ab
open Go
theorem free_es (es : List E) : frees (es.map .e) = true := by
  induction es with
  | nil => rfl
  | cons e r ih => show (true && frees (r.map .e)) = true; rw [ih]; rfl
theorem Ar.Ok.invk {A : Ar} (hA : A.Ok) {P : Program} {T : TypeId} {m : String} {fn : FuncId} {es : List E} {d : D} {k : FuncId → D → Prop} (hm : MRow P T m fn) (hd : d = .agg (es.map .e)) (h : k fn d) : A.inv P T m es k :=
  hA.inv _ _ _ _ _ ⟨fn, hm, fun d' hd' => by rw [hd', ← hd]; exact h⟩
/-- The width of an operator, as a method. -/
structure Wid (T : TypeId) (cs : List E) (w : Int) : Prop where
  ex : ∃ fn d, d = .agg (cs.map .e) ∧ frees [d] = true ∧ MRow Try.prog T "loop.example/s0035/impl.width" fn ∧ Plain Try.prog fn [d] (.int w)
theorem Wid.mk' {T : TypeId} {cs : List E} {w : Int} {fn : FuncId} (hm : MRow Try.prog T "loop.example/s0035/impl.width" fn) (h : Plain Try.prog fn [.agg (cs.map .e)] (.int w)) : Wid T cs w :=
  ⟨fn, _, rfl, by show (frees (cs.map .e) && true) = true; rw [free_es]; rfl, hm, h⟩
theorem wid_unit : Wid 228 [] 0 := by
  refine Wid.mk' (fn := 218) ⟨by kernel_rfl, _, Try.func218, by decide, rfl⟩ (okOf mixed p218 fun A P hA hP => ?_)
  cbv
  repeat' first | with_reducible rfl | with_reducible refine And.intro ?_ ?_ | ((with_reducible intro hcc); first | (cases hcc; done) | skip) | ((with_reducible show goC _ _ _ _ _ _ _ _); cbv) | ((with_reducible show goOps _ _ _ _ _); cbv) | ((with_reducible show goD _ _ _ _ _ _); cbv) | ((with_reducible show okWr _ _ = _); rfl) | ((with_reducible refine hA.fin_pl _ _ _ ?_); cbv) | (simp only [hA.natLit, hA.natOf, hA.natCast]; cbv)
  all_goals try simp only [hA.add, hA.sub, hA.mul, hA.neg, hA.div, hA.mod, hA.mn, hA.mx, hA.eq, hA.lt, hA.le, hA.nat, hA.R, hA.lep, hA.ltp, hA.seq, inR, n_cast, Int.ofNat_eq_natCast, Option.getD_some, Option.getD_none] at *
  all_goals first | omega | rfl | trivial | (rw [hzx, hz]; done) | (subst_vars; rfl) | (trace_state; fail)
theorem wid_scan (s : List UInt8) (c : Int) (x : List (List E)) : Wid 230 [E.str s, E.int c, E.sl x] c := by
  refine Wid.mk' (fn := 220) ⟨by kernel_rfl, _, Try.func220, by decide, rfl⟩ (okOf mixed p220 fun A P hA hP => ?_)
  cbv
  repeat' first | with_reducible rfl | with_reducible refine And.intro ?_ ?_ | ((with_reducible intro hcc); first | (cases hcc; done) | skip) | ((with_reducible show goC _ _ _ _ _ _ _ _); cbv) | ((with_reducible show goOps _ _ _ _ _); cbv) | ((with_reducible show goD _ _ _ _ _ _); cbv) | ((with_reducible show okWr _ _ = _); rfl) | ((with_reducible refine hA.fin_pl _ _ _ ?_); cbv) | (simp only [hA.natLit, hA.natOf, hA.natCast]; cbv)
  all_goals try simp only [hA.add, hA.sub, hA.mul, hA.neg, hA.div, hA.mod, hA.mn, hA.mx, hA.eq, hA.lt, hA.le, hA.nat, hA.R, hA.lep, hA.ltp, hA.seq, inR, n_cast, Int.ofNat_eq_natCast, Option.getD_some, Option.getD_none] at *
  all_goals first | omega | rfl | trivial | (rw [hzx, hz]; done) | (subst_vars; rfl) | (trace_state; fail)
theorem wid_filter (x : List (List E)) (T1 : TypeId) (c1 : List E) (w1 : Int) (h1 : Wid T1 c1 w1) (hw1 : 0 ≤ w1 ∧ w1 ≤ 4194304) : Wid 232 [E.sl x, E.ia T1 c1] w1 := by
  refine Wid.mk' (fn := 222) ⟨by kernel_rfl, _, Try.func222, by decide, rfl⟩ (okOf mixed p222 fun A P hA hP => ?_)
  obtain ⟨⟨fn1, d1, hd1, hfr1, hm1, hp1⟩⟩ := h1
  have hm1 : MRow P T1 "loop.example/s0035/impl.width" fn1 := hP ▸ hm1
  cbv
  repeat' first | with_reducible rfl | with_reducible refine And.intro ?_ ?_ | ((with_reducible intro hcc); first | (cases hcc; done) | skip) | ((with_reducible show goC _ _ _ _ _ _ _ _); cbv) | ((with_reducible show goOps _ _ _ _ _); cbv) | ((with_reducible show goD _ _ _ _ _ _); cbv) | ((with_reducible show okWr _ _ = _); rfl) | ((with_reducible refine hA.invk hm1 hd1 ?_); cbv) | ((with_reducible show A.call _ _ _ _ _ fn1 _ _ _); refine callK_eq hA hP hfr1 rfl ?_ (Wks.refl _) (fun _ _ => hp1); cbv) | ((with_reducible refine hA.fin_pl _ _ _ ?_); cbv) | (simp only [hA.natLit, hA.natOf, hA.natCast]; cbv)
  all_goals try simp only [hA.add, hA.sub, hA.mul, hA.neg, hA.div, hA.mod, hA.mn, hA.mx, hA.eq, hA.lt, hA.le, hA.nat, hA.R, hA.lep, hA.ltp, hA.seq, inR, n_cast, Int.ofNat_eq_natCast, Option.getD_some, Option.getD_none] at *
  all_goals first | omega | rfl | trivial | (rw [hzx, hz]; done) | (subst_vars; rfl) | (trace_state; fail)
theorem wid_project (x : List (List E)) (e : E) (hxl : x.length ≤ 1048576) (zx : Int) (hzx : zx = x.length) : Wid 234 [E.sl x, e] zx := by
  refine Wid.mk' (fn := 224) ⟨by kernel_rfl, _, Try.func224, by decide, rfl⟩ (okOf mixed p224 fun A P hA hP => ?_)
  cbv
  repeat' first | with_reducible rfl | with_reducible refine And.intro ?_ ?_ | ((with_reducible intro hcc); first | (cases hcc; done) | skip) | ((with_reducible show goC _ _ _ _ _ _ _ _); cbv) | ((with_reducible show goOps _ _ _ _ _); cbv) | ((with_reducible show goD _ _ _ _ _ _); cbv) | ((with_reducible show okWr _ _ = _); rfl) | ((with_reducible refine hA.fin_pl _ _ _ ?_); cbv) | ((with_reducible refine hA.len _ _ _ _ _ fun z hz hb => ?_); cbv) | (simp only [hA.natLit, hA.natOf, hA.natCast]; cbv)
  all_goals try simp only [hA.add, hA.sub, hA.mul, hA.neg, hA.div, hA.mod, hA.mn, hA.mx, hA.eq, hA.lt, hA.le, hA.nat, hA.R, hA.lep, hA.ltp, hA.seq, inR, n_cast, Int.ofNat_eq_natCast, Option.getD_some, Option.getD_none] at *
  all_goals first | omega | rfl | trivial | (rw [hzx, hz]; done) | (subst_vars; rfl) | (trace_state; fail)
theorem wid_cross (b : Bool) (T1 : TypeId) (c1 : List E) (w1 : Int) (h1 : Wid T1 c1 w1) (hw1 : 0 ≤ w1 ∧ w1 ≤ 4194304) (T2 : TypeId) (c2 : List E) (w2 : Int) (h2 : Wid T2 c2 w2) (hw2 : 0 ≤ w2 ∧ w2 ≤ 4194304) : Wid 236 [E.ia T1 c1, E.ia T2 c2, E.bool b] (w1 + w2) := by
  refine Wid.mk' (fn := 226) ⟨by kernel_rfl, _, Try.func226, by decide, rfl⟩ (okOf mixed p226 fun A P hA hP => ?_)
  obtain ⟨⟨fn1, d1, hd1, hfr1, hm1, hp1⟩⟩ := h1
  have hm1 : MRow P T1 "loop.example/s0035/impl.width" fn1 := hP ▸ hm1
  obtain ⟨⟨fn2, d2, hd2, hfr2, hm2, hp2⟩⟩ := h2
  have hm2 : MRow P T2 "loop.example/s0035/impl.width" fn2 := hP ▸ hm2
  cbv
  repeat' first | with_reducible rfl | with_reducible refine And.intro ?_ ?_ | ((with_reducible intro hcc); first | (cases hcc; done) | skip) | ((with_reducible show goC _ _ _ _ _ _ _ _); cbv) | ((with_reducible show goOps _ _ _ _ _); cbv) | ((with_reducible show goD _ _ _ _ _ _); cbv) | ((with_reducible show okWr _ _ = _); rfl) | ((with_reducible refine hA.invk hm1 hd1 ?_); cbv) | ((with_reducible show A.call _ _ _ _ _ fn1 _ _ _); refine callK_eq hA hP hfr1 rfl ?_ (Wks.refl _) (fun _ _ => hp1); cbv) | ((with_reducible refine hA.invk hm2 hd2 ?_); cbv) | ((with_reducible show A.call _ _ _ _ _ fn2 _ _ _); refine callK_eq hA hP hfr2 rfl ?_ (Wks.refl _) (fun _ _ => hp2); cbv) | ((with_reducible refine hA.fin_pl _ _ _ ?_); cbv) | ((with_reducible refine hA.sapp _ _ _ ⟨?_, fun sl hsl => ?_⟩); rotate_left; cbv) | (simp only [hA.natLit, hA.natOf, hA.natCast]; cbv)
  all_goals try simp only [hA.add, hA.sub, hA.mul, hA.neg, hA.div, hA.mod, hA.mn, hA.mx, hA.eq, hA.lt, hA.le, hA.nat, hA.R, hA.lep, hA.ltp, hA.seq, inR, n_cast, Int.ofNat_eq_natCast, Option.getD_some, Option.getD_none] at *
  all_goals first | omega | rfl | trivial | (rw [hzx, hz]; done) | (subst_vars; rfl) | (trace_state; fail)
theorem wid_mark (x : List (List E)) (e : E) (T1 : TypeId) (c1 : List E) (w1 : Int) (h1 : Wid T1 c1 w1) (hw1 : 0 ≤ w1 ∧ w1 ≤ 4194304) : Wid 238 [E.sl x, E.ia T1 c1, e] (w1 + 1) := by
  refine Wid.mk' (fn := 228) ⟨by kernel_rfl, _, Try.func228, by decide, rfl⟩ (okOf mixed p228 fun A P hA hP => ?_)
  obtain ⟨⟨fn1, d1, hd1, hfr1, hm1, hp1⟩⟩ := h1
  have hm1 : MRow P T1 "loop.example/s0035/impl.width" fn1 := hP ▸ hm1
  cbv
  repeat' first | with_reducible rfl | with_reducible refine And.intro ?_ ?_ | ((with_reducible intro hcc); first | (cases hcc; done) | skip) | ((with_reducible show goC _ _ _ _ _ _ _ _); cbv) | ((with_reducible show goOps _ _ _ _ _); cbv) | ((with_reducible show goD _ _ _ _ _ _); cbv) | ((with_reducible show okWr _ _ = _); rfl) | ((with_reducible refine hA.invk hm1 hd1 ?_); cbv) | ((with_reducible show A.call _ _ _ _ _ fn1 _ _ _); refine callK_eq hA hP hfr1 rfl ?_ (Wks.refl _) (fun _ _ => hp1); cbv) | ((with_reducible refine hA.fin_pl _ _ _ ?_); cbv) | ((with_reducible refine hA.sapp _ _ _ ⟨?_, fun sl hsl => ?_⟩); rotate_left; cbv) | (simp only [hA.natLit, hA.natOf, hA.natCast]; cbv)
  all_goals try simp only [hA.add, hA.sub, hA.mul, hA.neg, hA.div, hA.mod, hA.mn, hA.mx, hA.eq, hA.lt, hA.le, hA.nat, hA.R, hA.lep, hA.ltp, hA.seq, inR, n_cast, Int.ofNat_eq_natCast, Option.getD_some, Option.getD_none] at *
  all_goals first | omega | rfl | trivial | (rw [hzx, hz]; done) | (subst_vars; rfl) | (trace_state; fail)
theorem wid_agg (m : Int) (x : List (List E)) (e : E) (T1 : TypeId) (c1 : List E) (w1 : Int) (h1 : Wid T1 c1 w1) (hw1 : 0 ≤ w1 ∧ w1 ≤ 4194304) : Wid 240 [E.int m, E.sl x, E.ia T1 c1, e] (w1 + 1) := by
  refine Wid.mk' (fn := 230) ⟨by kernel_rfl, _, Try.func230, by decide, rfl⟩ (okOf mixed p230 fun A P hA hP => ?_)
  obtain ⟨⟨fn1, d1, hd1, hfr1, hm1, hp1⟩⟩ := h1
  have hm1 : MRow P T1 "loop.example/s0035/impl.width" fn1 := hP ▸ hm1
  cbv
  repeat' first | with_reducible rfl | with_reducible refine And.intro ?_ ?_ | ((with_reducible intro hcc); first | (cases hcc; done) | skip) | ((with_reducible show goC _ _ _ _ _ _ _ _); cbv) | ((with_reducible show goOps _ _ _ _ _); cbv) | ((with_reducible show goD _ _ _ _ _ _); cbv) | ((with_reducible show okWr _ _ = _); rfl) | ((with_reducible refine hA.invk hm1 hd1 ?_); cbv) | ((with_reducible show A.call _ _ _ _ _ fn1 _ _ _); refine callK_eq hA hP hfr1 rfl ?_ (Wks.refl _) (fun _ _ => hp1); cbv) | ((with_reducible refine hA.fin_pl _ _ _ ?_); cbv) | ((with_reducible refine hA.sapp _ _ _ ⟨?_, fun sl hsl => ?_⟩); rotate_left; cbv) | (simp only [hA.natLit, hA.natOf, hA.natCast]; cbv)
  all_goals try simp only [hA.add, hA.sub, hA.mul, hA.neg, hA.div, hA.mod, hA.mn, hA.mx, hA.eq, hA.lt, hA.le, hA.nat, hA.R, hA.lep, hA.ltp, hA.seq, inR, n_cast, Int.ofNat_eq_natCast, Option.getD_some, Option.getD_none] at *
  all_goals first | omega | rfl | trivial | (rw [hzx, hz]; done) | (subst_vars; rfl) | (trace_state; fail)
theorem wid_distinct (T1 : TypeId) (c1 : List E) (w1 : Int) (h1 : Wid T1 c1 w1) (hw1 : 0 ≤ w1 ∧ w1 ≤ 4194304) : Wid 242 [E.ia T1 c1] w1 := by
  refine Wid.mk' (fn := 232) ⟨by kernel_rfl, _, Try.func232, by decide, rfl⟩ (okOf mixed p232 fun A P hA hP => ?_)
  obtain ⟨⟨fn1, d1, hd1, hfr1, hm1, hp1⟩⟩ := h1
  have hm1 : MRow P T1 "loop.example/s0035/impl.width" fn1 := hP ▸ hm1
  cbv
  repeat' first | with_reducible rfl | with_reducible refine And.intro ?_ ?_ | ((with_reducible intro hcc); first | (cases hcc; done) | skip) | ((with_reducible show goC _ _ _ _ _ _ _ _); cbv) | ((with_reducible show goOps _ _ _ _ _); cbv) | ((with_reducible show goD _ _ _ _ _ _); cbv) | ((with_reducible show okWr _ _ = _); rfl) | ((with_reducible refine hA.invk hm1 hd1 ?_); cbv) | ((with_reducible show A.call _ _ _ _ _ fn1 _ _ _); refine callK_eq hA hP hfr1 rfl ?_ (Wks.refl _) (fun _ _ => hp1); cbv) | ((with_reducible refine hA.fin_pl _ _ _ ?_); cbv) | (simp only [hA.natLit, hA.natOf, hA.natCast]; cbv)
  all_goals try simp only [hA.add, hA.sub, hA.mul, hA.neg, hA.div, hA.mod, hA.mn, hA.mx, hA.eq, hA.lt, hA.le, hA.nat, hA.R, hA.lep, hA.ltp, hA.seq, inR, n_cast, Int.ofNat_eq_natCast, Option.getD_some, Option.getD_none] at *
  all_goals first | omega | rfl | trivial | (rw [hzx, hz]; done) | (subst_vars; rfl) | (trace_state; fail)
theorem wid_union (e : E) (T1 : TypeId) (c1 : List E) (w1 : Int) (h1 : Wid T1 c1 w1) (hw1 : 0 ≤ w1 ∧ w1 ≤ 4194304) : Wid 244 [E.ia T1 c1, e] w1 := by
  refine Wid.mk' (fn := 234) ⟨by kernel_rfl, _, Try.func234, by decide, rfl⟩ (okOf mixed p234 fun A P hA hP => ?_)
  obtain ⟨⟨fn1, d1, hd1, hfr1, hm1, hp1⟩⟩ := h1
  have hm1 : MRow P T1 "loop.example/s0035/impl.width" fn1 := hP ▸ hm1
  cbv
  repeat' first | with_reducible rfl | with_reducible refine And.intro ?_ ?_ | ((with_reducible intro hcc); first | (cases hcc; done) | skip) | ((with_reducible show goC _ _ _ _ _ _ _ _); cbv) | ((with_reducible show goOps _ _ _ _ _); cbv) | ((with_reducible show goD _ _ _ _ _ _); cbv) | ((with_reducible show okWr _ _ = _); rfl) | ((with_reducible refine hA.invk hm1 hd1 ?_); cbv) | ((with_reducible show A.call _ _ _ _ _ fn1 _ _ _); refine callK_eq hA hP hfr1 rfl ?_ (Wks.refl _) (fun _ _ => hp1); cbv) | ((with_reducible refine hA.fin_pl _ _ _ ?_); cbv) | (simp only [hA.natLit, hA.natOf, hA.natCast]; cbv)
  all_goals try simp only [hA.add, hA.sub, hA.mul, hA.neg, hA.div, hA.mod, hA.mn, hA.mx, hA.eq, hA.lt, hA.le, hA.nat, hA.R, hA.lep, hA.ltp, hA.seq, inR, n_cast, Int.ofNat_eq_natCast, Option.getD_some, Option.getD_none] at *
  all_goals first | omega | rfl | trivial | (rw [hzx, hz]; done) | (subst_vars; rfl) | (trace_state; fail)
theorem wid_ok : ∀ (o : Ot), o.sm → 0 ≤ o.w ∧ o.w ≤ 4194304 → Wid o.T o.cs o.w
  | .unit, _, _ => wid_unit
  | .scan t, _, _ => wid_scan _ _ _
  | .filter ex l, h, hw => by
    have := wid_filter (ex.map orow) l.T l.cs l.w (wid_ok l h hw) hw
    rw [← Ot.E_eq] at this; exact this
  | .project exs l, h, hw => by
    have := wid_project (exs.map orr) l.E (by rw [List.length_map]; exact h.1) exs.length (by rw [List.length_map])
    exact this
  | .cross l r dep, h, hw => by
    obtain ⟨⟨a, b, c, d⟩, h1, h2⟩ := h
    have := wid_cross dep l.T l.cs l.w (wid_ok l h1 (by omega)) (by omega) r.T r.cs r.w (wid_ok r h2 (by omega)) (by omega)
    rw [← Ot.E_eq, ← Ot.E_eq] at this; exact this
  | .mark ex l r, h, hw => by
    obtain ⟨a, h1, h2⟩ := h
    have := wid_mark (ex.map orow) r.E l.T l.cs l.w (wid_ok l h1 (by omega)) (by omega)
    rw [← Ot.E_eq] at this; exact this
  | .agg m ex l r, h, hw => by
    obtain ⟨a, h1, h2⟩ := h
    have := wid_agg m (ex.map orow) r.E l.T l.cs l.w (wid_ok l h1 (by omega)) (by omega)
    rw [← Ot.E_eq] at this; exact this
  | .distinct l, h, hw => by
    have := wid_distinct l.T l.cs l.w (wid_ok l h hw) hw
    rw [← Ot.E_eq] at this; exact this
  | .union l r, h, hw => by
    have := wid_union r.E l.T l.cs l.w (wid_ok l h.1 hw) hw
    rw [← Ot.E_eq] at this; exact this
/-! ### Expressions asked with a closure over an operator -/
theorem ebox_side {args : RF → List D} {i : Int} {e : E} {d : D} (ha : ∀ t, args t = rens t (args id)) (hl : lts 2 (args id) = true) (hd : ∀ t, d = d.ren t) : Side args (fun _ => [.box [.int i], .box [.e e]]) (fun _ => d) (fun _ => [.box [.int i], .box [.e e]]) :=
  ⟨ha, hl, fun t => rfl, by intro o ho; simp at ho; rcases ho with rfl | rfl <;> rfl, hd, fun t => rfl, by simp⟩
theorem ebox_fin {A : Ar} (hA : A.Ok) {i : Int} {e : E} {l' : List O} {d' d : D} (h0 : hpF l' 0 = .box [.int i]) (h2 : hpF l' 1 = .box [.e e]) (h1 : d = d') (hd : ∀ t, d = d.ren t) (hl : ∀ m, d.lt m = true) : A.finv [.box [.int i], .box [.e e]] l' d' [.box [.int i], .box [.e e]] d :=
  hA.finv _ _ _ _ _ (FinV.ren [0, 1] (fun _ => [.box [.int i], .box [.e e]]) (fun _ => d) rfl (.inl h1) ⟨h0, h2, trivial⟩ hd (hl _) (fun t => rfl) (by intro o ho; simp at ho; rcases ho with rfl | rfl <;> rfl))
theorem ok199 (e : List (Int × Int)) (x : List (List E)) (hx : x = e.map orow) (hlen : x.length ≤ 1048576) (env : Int) (he : 0 ≤ env ∧ env ≤ 1000) (T1 : TypeId) (c1 : List E) (w1 : Int) (h1 : Wid T1 c1 w1) (hw1 : 0 ≤ w1 ∧ w1 ≤ 1000) (v : Int) (hv : v = env + w1) :
    Proc Try.prog 199 (fun t => [.e (.sl x), .ref (t 0) 0, .ref (t 1) 0]) (fun _ => [.box [.int env], .box [.e (.ia T1 c1)]]) (fun _ => .bool (!exOk e v)) (fun _ => [.box [.int env], .box [.e (.ia T1 c1)]]) := by
  have h := ok181 e x hx hlen v
  obtain ⟨b, hb⟩ : ∃ b, b = exOk e v := ⟨_, rfl⟩
  obtain ⟨nb, hnb⟩ : ∃ nb, nb = !b := ⟨_, rfl⟩
  rw [← hb] at h ⊢
  rw [← hnb]
  refine procOf mixed p199 (ebox_side (fun t => rfl) rfl (fun t => rfl)) fun A P hA hP => ?_
  obtain ⟨⟨fn1, d1, hd1, hfr1, hm1, hp1⟩⟩ := h1
  have hm1 : MRow P T1 "loop.example/s0035/impl.width" fn1 := hP ▸ hm1
  have hs1 : v = A.add env w1 := by rw [hA.add, hv]
  cases b
  all_goals
    cbv
    repeat' first | with_reducible rfl | (simp only [← hs1]; cbv) | with_reducible refine And.intro ?_ ?_ | ((with_reducible intro hcc); first | (cases hcc; done) | skip) | ((with_reducible show goC _ _ _ _ _ _ _ _); cbv) | ((with_reducible show goOps _ _ _ _ _); cbv) | ((with_reducible show goD _ _ _ _ _ _); cbv) | ((with_reducible show okWr _ _ = _); rfl) | ((with_reducible refine callK_eq hA hP ?_ ?_ ?_ (Wks.refl _) (fun _ _ => h)); exact rfl; exact rfl; cbv) | ((with_reducible refine hA.invk hm1 hd1 ?_); cbv) | ((with_reducible show A.call _ _ _ _ _ fn1 _ _ _); refine callK_eq hA hP hfr1 rfl ?_ (Wks.refl _) (fun _ _ => hp1); cbv) | ((with_reducible refine hA.fin_pl _ _ _ ?_); cbv) | ((with_reducible refine hA.sapp _ _ _ ⟨?_, fun sl hsl => ?_⟩); rotate_left; cbv) | (simp only [hA.natLit, hA.natOf, hA.natCast]; cbv)
    all_goals try simp only [hA.add, hA.sub, hA.mul, hA.neg, hA.div, hA.mod, hA.mn, hA.mx, hA.eq, hA.lt, hA.le, hA.nat, hA.R, hA.lep, hA.ltp, hA.seq, inR, n_cast, Int.ofNat_eq_natCast, Option.getD_some, Option.getD_none] at *
    all_goals first
      | omega
      | (subst hnb; exact ebox_fin hA rfl rfl rfl (fun _ => rfl) fun _ => rfl)
      | (trace_state; fail)
theorem fok326 : fOK Try.prog 199 := ⟨_, Try.func199, by decide, rfl⟩
set_option maxRecDepth 100000 in
theorem ok196o (l : List (List (Int × Int))) (es : List (List E)) (he : es = l.map orr) (hel : ∀ e ∈ l, e.length ≤ 1048576) (env : Int) (hen : 0 ≤ env ∧ env ≤ 1000) (T1 : TypeId) (c1 : List E) (w1 : Int) (h1 : Wid T1 c1 w1) (hw1 : 0 ≤ w1 ∧ w1 ≤ 1000) (v : Int) (hv : v = env + w1) :
    Proc Try.prog 196 (fun t => [.e (.sl es), .fn (.func 199) [] [.ref (t 0) 0, .ref (t 1) 0]]) (fun _ => [.box [.int env], .box [.e (.ia T1 c1)]]) (fun _ => .int (fstG (fun k => !exOk k v) l 0)) (fun _ => [.box [.int env], .box [.e (.ia T1 c1)]]) := by
  obtain ⟨r, hr⟩ : ∃ r, r = fstG (fun k => !exOk k v) l 0 := ⟨_, rfl⟩
  rw [← hr]
  refine procOf mixed p196 (ebox_side (fun t => rfl) rfl (fun t => rfl)) fun A P hA hP => ?_
  have hf' : ∃ func, P.funcs[199]? = some func ∧ ¬func.name = "runtime.NumGoroutine" ∧ func.body.isNone = false := hP ▸ fok326
  have hl1 : es.length = l.length := by rw [he]; simp
  cbv
  repeat' first | with_reducible rfl | with_reducible refine And.intro ?_ ?_ | ((with_reducible intro hcc); first | (cases hcc; done) | skip) | ((with_reducible show goC _ _ _ _ _ _ _ _); cbv) | ((with_reducible show goOps _ _ _ _ _); cbv) | ((with_reducible show goD _ _ _ _ _ _); cbv) | ((with_reducible show okWr _ _ = _); rfl) | ((with_reducible refine hA.fin_pl _ _ _ ?_); cbv) | ((with_reducible refine hA.len _ _ _ _ _ fun z hz hb => ?_); cbv) | ((with_reducible refine hA.off _ _ _ _ fun b hb => ?_); cbv) | ((with_reducible refine hA.sapp _ _ _ ⟨?_, fun sl hsl => ?_⟩); rotate_left; cbv) | (simp only [hA.natLit, hA.natOf, hA.natCast]; cbv)
  all_goals try simp only [hA.add, hA.sub, hA.mul, hA.neg, hA.div, hA.mod, hA.mn, hA.mx, hA.eq, hA.lt, hA.le, hA.nat, hA.R, hA.lep, hA.ltp, hA.seq, inR, n_cast, Int.ofNat_eq_natCast, Option.getD_some, Option.getD_none] at *
  refine hA.loopI (fun m s => ∃ (i : Int), 0 ≤ i ∧ m + i = es.length ∧ r = fstG (fun k => !exOk k v) (l.drop i.toNat) i ∧ s = ⟨[(8, .int i), (7, .int z), (0, .e (.sl es)), (1, .fn (.func 199) [] [.ref 0 0, .ref 1 0])], [.box [.int env], .box [.e (.ia T1 c1)]]⟩) es.length _
    (Weak.keep (env' := [(8, .int 0), (7, .int z), (0, .e (.sl es)), (1, .fn (.func 199) [] [.ref 0 0, .ref 1 0])]) ⟨rfl, rfl, rfl, rfl, trivial⟩) ⟨0, by omega, by omega, hr, rfl⟩ ?_
  rintro m s K ⟨i, h0, h1', h2, rfl⟩ hK
  by_cases hin : (0 : Int) ≤ i ∧ i < es.length
  · obtain ⟨k, e1, q1⟩ := ors_at he hin
    obtain ⟨xk, hxk⟩ : ∃ x, x = k.map orow := ⟨_, rfl⟩
    have e1 : es.getD i.toNat [] = [E.sl xk] := e1.trans (by rw [hxk])
    have h326 := ok199 k xk hxk (by rw [hxk, List.length_map]; exact hel _ (List.mem_of_getElem? q1)) env hen T1 c1 w1 h1 hw1 v hv
    obtain ⟨b, hb⟩ : ∃ b, b = !exOk k v := ⟨_, rfl⟩
    rw [← hb] at h326
    have hd : l.drop i.toNat = k :: l.drop (i.toNat + 1) := by
      obtain ⟨a, c⟩ := List.getElem?_eq_some_iff.1 q1
      rw [List.drop_eq_getElem_cons a, c]
    rw [hd, fstG, ← hb] at h2
    have hK2 : ∀ (en : List (Nat × D)), b = false → subL [(8, .int (i + 1)), (7, .int z), (0, .e (.sl es)), (1, .fn (.func 199) [] [.ref 0 0, .ref 1 0])] en → K ⟨en, [.box [.int env], .box [.e (.ia T1 c1)]]⟩ := fun en g1 g3 =>
      hK _ (m - 1) _ (by omega) (Weak.keep g3) ⟨i + 1, by omega, by omega, by rw [h2, g1, show (i + 1).toNat = i.toNat + 1 by omega]; rfl, rfl⟩
    clear hK hr hb h1
    cases b
    all_goals
      clear hd
      cbv
      repeat' first | with_reducible rfl | with_reducible refine And.intro ?_ ?_ | ((with_reducible intro hcc); first | (cases hcc; done) | skip) | ((with_reducible show goC _ _ _ _ _ _ _ _); cbv) | ((with_reducible show goOps _ _ _ _ _); cbv) | ((with_reducible show goD _ _ _ _ _ _); cbv) | ((with_reducible show okWr _ _ = _); rfl) | ((with_reducible refine hA.row es _ _ ⟨hin, fun row hrow => ?_⟩); rw [e1] at hrow; subst hrow; cbv) | ((with_reducible show A.call _ _ _ _ _ 199 _ _ _); have hc := h326; refine callK_pr hA hP [0, 1] (by rfl) (by exact ⟨rfl, rfl, trivial⟩) (Wks.refl _) ?_ (fun _ _ => hc) hc.side; cbv) | ((with_reducible refine hA.fin_pl _ _ _ ?_); cbv) | ((with_reducible refine hA.len _ _ _ _ _ fun z hz hb => ?_); cbv) | ((with_reducible refine hA.off _ _ _ _ fun b hb => ?_); cbv) | ((with_reducible refine hA.sapp _ _ _ ⟨?_, fun sl hsl => ?_⟩); rotate_left; cbv) | (simp only [hA.natLit, hA.natOf, hA.natCast]; cbv)
      all_goals try simp only [hA.add, hA.sub, hA.mul, hA.neg, hA.div, hA.mod, hA.mn, hA.mx, hA.eq, hA.lt, hA.le, hA.nat, hA.R, hA.lep, hA.ltp, hA.seq, inR, n_cast, Int.ofNat_eq_natCast, Option.getD_some, Option.getD_none] at *
      all_goals first
        | omega
        | exact hf'
        | (exfalso; simp only [decide_eq_true_eq, decide_eq_false_iff_not] at *; omega)
        | exact hK2 _ (by first | exact rfl | exact trivial) ⟨rfl, rfl, rfl, rfl, trivial⟩
        | (have e5 : r = i := h2
           exact ebox_fin hA rfl rfl (by rw [e5]) (fun _ => rfl) fun _ => rfl)
        | (clear hK2 h2; simp at *; omega)
        | (trace_state; fail)
  · have hd : l.drop i.toNat = [] := by rw [List.drop_eq_nil_iff]; omega
    rw [hd] at h2
    have e5 : r = -1 := h2
    clear hK hr h2 h1
    cbv
    repeat' first | with_reducible rfl | with_reducible refine And.intro ?_ ?_ | ((with_reducible intro hcc); first | (cases hcc; done) | skip) | ((with_reducible show goC _ _ _ _ _ _ _ _); cbv) | ((with_reducible show goOps _ _ _ _ _); cbv) | ((with_reducible show goD _ _ _ _ _ _); cbv) | ((with_reducible show okWr _ _ = _); rfl) | (exfalso; simp only [hA.lt, hA.sub, decide_eq_true_eq, decide_eq_false_iff_not, n_cast] at *; omega) | ((with_reducible refine hA.fin_pl _ _ _ ?_); cbv) | ((with_reducible refine hA.len _ _ _ _ _ fun z hz hb => ?_); cbv) | ((with_reducible refine hA.off _ _ _ _ fun b hb => ?_); cbv) | ((with_reducible refine hA.sapp _ _ _ ⟨?_, fun sl hsl => ?_⟩); rotate_left; cbv) | (simp only [hA.natLit, hA.natOf, hA.natCast]; cbv)
    all_goals try simp only [hA.add, hA.sub, hA.mul, hA.neg, hA.div, hA.mod, hA.mn, hA.mx, hA.eq, hA.lt, hA.le, hA.nat, hA.R, hA.lep, hA.ltp, hA.seq, inR, n_cast, Int.ofNat_eq_natCast, Option.getD_some, Option.getD_none] at *
    all_goals first
      | exact ebox_fin hA rfl rfl (by rw [e5]) (fun _ => rfl) fun _ => rfl
      | omega
      | (trace_state; fail)
theorem ok182o (l : List (List (Int × Int))) (es : List (List E)) (he : es = l.map orr) (hel : ∀ e ∈ l, e.length ≤ 1048576) (env : Int) (hen : 0 ≤ env ∧ env ≤ 1000) (T1 : TypeId) (c1 : List E) (w1 : Int) (h1 : Wid T1 c1 w1) (hw1 : 0 ≤ w1 ∧ w1 ≤ 1000) (v : Int) (hv : v = env + w1) :
    Proc Try.prog 182 (fun t => [.e (.sl es), .fn (.func 199) [] [.ref (t 0) 0, .ref (t 1) 0]]) (fun _ => [.box [.int env], .box [.e (.ia T1 c1)]]) (fun _ => .bool (l.any fun k => !exOk k v)) (fun _ => [.box [.int env], .box [.e (.ia T1 c1)]]) := by
  have h325 := ok196o l es he hel env hen T1 c1 w1 h1 hw1 v hv
  obtain ⟨x, hx⟩ : ∃ x, x = fstG (fun k => !exOk k v) l 0 := ⟨_, rfl⟩
  obtain ⟨r, hr⟩ : ∃ r, r = l.any fun k => !exOk k v := ⟨_, rfl⟩
  rw [← hx] at h325
  have hr2 : r = decide (0 ≤ x) := by rw [hr, hx, fstG_any _ _ _ (Int.le_refl 0)]
  rw [← hr]
  refine procOf mixed p182 (ebox_side (fun t => rfl) rfl (fun t => rfl)) fun A P hA hP => ?_
  clear hr hx
  cbv
  repeat' first | with_reducible rfl | with_reducible refine And.intro ?_ ?_ | ((with_reducible intro hcc); first | (cases hcc; done) | skip) | ((with_reducible show goC _ _ _ _ _ _ _ _); cbv) | ((with_reducible show goOps _ _ _ _ _); cbv) | ((with_reducible show goD _ _ _ _ _ _); cbv) | ((with_reducible show okWr _ _ = _); rfl) | ((with_reducible show A.call _ _ _ _ _ 196 _ _ _); have hc := h325; refine callK_pr hA hP [0, 1] (by rfl) (by exact ⟨rfl, rfl, trivial⟩) (Wks.refl _) ?_ (fun _ _ => hc) hc.side; cbv) | ((with_reducible refine hA.fin_pl _ _ _ ?_); cbv) | (simp only [hA.natLit, hA.natOf, hA.natCast]; cbv)
  all_goals try simp only [hA.add, hA.sub, hA.mul, hA.neg, hA.div, hA.mod, hA.mn, hA.mx, hA.eq, hA.lt, hA.le, hA.nat, hA.R, hA.lep, hA.ltp, hA.seq, inR, n_cast, Int.ofNat_eq_natCast, Option.getD_some, Option.getD_none] at *
  all_goals exact ebox_fin hA rfl rfl (by rw [hr2]) (fun _ => rfl) fun _ => rfl
end Go.Proofs.Ytfplalbognalkaa.Ab
/- Plans: kinds, fields that are not used. -/
namespace Go.Proofs.Ytfplalbognalkaa.Ab
open Go
theorem ok90 (k : Int) : Plain Try.prog 90 [.int k] (.bool (hasL k)) := okOf mixed p90 fun A P hA hP => (by
  obtain ⟨r, hr⟩ : ∃ r, r = hasL k := ⟨_, rfl⟩
  rw [← hr]
  cbv
  repeat' first | with_reducible rfl | with_reducible refine And.intro ?_ ?_ | ((with_reducible intro hcc); first | (cases hcc; done) | skip) | ((with_reducible show goC _ _ _ _ _ _ _ _); cbv) | ((with_reducible show goOps _ _ _ _ _); cbv) | ((with_reducible show goD _ _ _ _ _ _); cbv) | ((with_reducible show okWr _ _ = _); rfl) | ((with_reducible refine hA.fin_pl _ _ _ ?_); cbv) | ((with_reducible refine hA.gb0 true _ ?_); cbv) | ((with_reducible refine hA.gb0 false _ ?_); cbv) | ((with_reducible refine hA.gb _ _ fun vb hvb => ?_); cbv) | (simp only [hA.natLit, hA.natOf, hA.natCast]; cbv)
  all_goals try simp only [hA.add, hA.sub, hA.mul, hA.neg, hA.div, hA.mod, hA.mn, hA.mx, hA.eq, hA.lt, hA.le, hA.nat, hA.R, hA.lep, hA.ltp, hA.seq, inR, n_cast, Int.ofNat_eq_natCast, Option.getD_some, Option.getD_none] at *
  all_goals first | trivial | exact gg1 _ | exact gg2 _ | exact gg3 _ | exact gg4 _ | exact gg5 _ | (clear hr; split <;> first | rfl | trivial | assumption | (simp_all; done)) | (rw [hr, hasL]; grind) | (trace_state; fail))
theorem ok91 (k : Int) : Plain Try.prog 91 [.int k] (.bool (hasR k)) := okOf mixed p91 fun A P hA hP => (by
  obtain ⟨r, hr⟩ : ∃ r, r = hasR k := ⟨_, rfl⟩
  rw [← hr]
  cbv
  repeat' first | with_reducible rfl | with_reducible refine And.intro ?_ ?_ | ((with_reducible intro hcc); first | (cases hcc; done) | skip) | ((with_reducible show goC _ _ _ _ _ _ _ _); cbv) | ((with_reducible show goOps _ _ _ _ _); cbv) | ((with_reducible show goD _ _ _ _ _ _); cbv) | ((with_reducible show okWr _ _ = _); rfl) | ((with_reducible refine hA.fin_pl _ _ _ ?_); cbv) | ((with_reducible refine hA.gb0 true _ ?_); cbv) | ((with_reducible refine hA.gb0 false _ ?_); cbv) | ((with_reducible refine hA.gb _ _ fun vb hvb => ?_); cbv) | (simp only [hA.natLit, hA.natOf, hA.natCast]; cbv)
  all_goals try simp only [hA.add, hA.sub, hA.mul, hA.neg, hA.div, hA.mod, hA.mn, hA.mx, hA.eq, hA.lt, hA.le, hA.nat, hA.R, hA.lep, hA.ltp, hA.seq, inR, n_cast, Int.ofNat_eq_natCast, Option.getD_some, Option.getD_none] at *
  all_goals first | trivial | exact gg1 _ | exact gg2 _ | exact gg3 _ | exact gg4 _ | exact gg5 _ | (clear hr; split <;> first | rfl | trivial | assumption | (simp_all; done)) | (rw [hr, hasR]; grind) | (trace_state; fail))
theorem ok92 (k : Int) : Plain Try.prog 92 [.int k] (.bool (depK k)) := okOf mixed p92 fun A P hA hP => (by
  obtain ⟨r, hr⟩ : ∃ r, r = depK k := ⟨_, rfl⟩
  rw [← hr]
  cbv
  repeat' first | with_reducible rfl | with_reducible refine And.intro ?_ ?_ | ((with_reducible intro hcc); first | (cases hcc; done) | skip) | ((with_reducible show goC _ _ _ _ _ _ _ _); cbv) | ((with_reducible show goOps _ _ _ _ _); cbv) | ((with_reducible show goD _ _ _ _ _ _); cbv) | ((with_reducible show okWr _ _ = _); rfl) | ((with_reducible refine hA.fin_pl _ _ _ ?_); cbv) | ((with_reducible refine hA.gb0 true _ ?_); cbv) | ((with_reducible refine hA.gb0 false _ ?_); cbv) | ((with_reducible refine hA.gb _ _ fun vb hvb => ?_); cbv) | (simp only [hA.natLit, hA.natOf, hA.natCast]; cbv)
  all_goals try simp only [hA.add, hA.sub, hA.mul, hA.neg, hA.div, hA.mod, hA.mn, hA.mx, hA.eq, hA.lt, hA.le, hA.nat, hA.R, hA.lep, hA.ltp, hA.seq, inR, n_cast, Int.ofNat_eq_natCast, Option.getD_some, Option.getD_none] at *
  all_goals first | trivial | exact gg1 _ | exact gg2 _ | exact gg3 _ | exact gg4 _ | exact gg5 _ | (clear hr; split <;> first | rfl | trivial | assumption | (simp_all; done)) | (rw [hr, depK]; grind) | (trace_state; fail))
def kidsN (k : Int) : Int := if k = 1 ∨ k = 2 then 0 else if k = 3 ∨ k = 4 ∨ k = 9 then 1 else if 1 ≤ k ∧ k ≤ 10 then 2 else -1
theorem ok141 (k : Int) : Plain Try.prog 141 [.int k] (.int (kidsN k)) := okOf mixed p141 fun A P hA hP => (by
  obtain ⟨r, hr⟩ : ∃ r, r = kidsN k := ⟨_, rfl⟩
  rw [← hr]
  cbv
  repeat' first | with_reducible rfl | with_reducible refine And.intro ?_ ?_ | ((with_reducible intro hcc); first | (cases hcc; done) | skip) | ((with_reducible show goC _ _ _ _ _ _ _ _); cbv) | ((with_reducible show goOps _ _ _ _ _); cbv) | ((with_reducible show goD _ _ _ _ _ _); cbv) | ((with_reducible show okWr _ _ = _); rfl) | ((with_reducible refine hA.fin_pl _ _ _ ?_); cbv) | ((with_reducible refine hA.gb0 true _ ?_); cbv) | ((with_reducible refine hA.gb0 false _ ?_); cbv) | ((with_reducible refine hA.gb _ _ fun vb hvb => ?_); cbv) | (simp only [hA.natLit, hA.natOf, hA.natCast]; cbv)
  all_goals try simp only [hA.add, hA.sub, hA.mul, hA.neg, hA.div, hA.mod, hA.mn, hA.mx, hA.eq, hA.lt, hA.le, hA.nat, hA.R, hA.lep, hA.ltp, hA.seq, inR, n_cast, Int.ofNat_eq_natCast, Option.getD_some, Option.getD_none] at *
  all_goals first | trivial | exact gg1 _ | exact gg2 _ | exact gg3 _ | exact gg4 _ | exact gg5 _ | (clear hr; split <;> first | rfl | trivial | assumption | (simp_all; done)) | (rw [show r = 0 by rw [hr, kidsN]; grind]; done) | (rw [show r = 1 by rw [hr, kidsN]; grind]; done) | (rw [show r = 2 by rw [hr, kidsN]; grind]; done) | (rw [show r = -1 by rw [hr, kidsN]; grind]; done) | (trace_state; fail))
theorem ok143 (k env l : Int) (h : 0 ≤ env ∧ env ≤ 100000 ∧ 0 ≤ l ∧ l ≤ 100000) : Plain Try.prog 143 [.int k, .int env, .int l] (.int (if depK k then env + l else env)) := okOf mixed p143 fun A P hA hP => (by
  obtain ⟨r, hr⟩ : ∃ r, r = if depK k then env + l else env := ⟨_, rfl⟩
  rw [← hr]
  cbv
  repeat' first | with_reducible rfl | with_reducible refine And.intro ?_ ?_ | ((with_reducible intro hcc); first | (cases hcc; done) | skip) | ((with_reducible show goC _ _ _ _ _ _ _ _); cbv) | ((with_reducible show goOps _ _ _ _ _); cbv) | ((with_reducible show goD _ _ _ _ _ _); cbv) | ((with_reducible show okWr _ _ = _); rfl) | ((with_reducible refine hA.fin_pl _ _ _ ?_); cbv) | ((with_reducible refine hA.sapp _ _ _ ⟨?_, fun sl hsl => ?_⟩); rotate_left; cbv) | ((with_reducible refine hA.gb0 true _ ?_); cbv) | ((with_reducible refine hA.gb0 false _ ?_); cbv) | ((with_reducible refine hA.gb _ _ fun vb hvb => ?_); cbv) | (simp only [hA.natLit, hA.natOf, hA.natCast]; cbv)
  all_goals try simp only [hA.add, hA.sub, hA.mul, hA.neg, hA.div, hA.mod, hA.mn, hA.mx, hA.eq, hA.lt, hA.le, hA.nat, hA.R, hA.lep, hA.ltp, hA.seq, inR, n_cast, Int.ofNat_eq_natCast, Option.getD_some, Option.getD_none] at *
  all_goals first | omega | first | trivial | exact gg1 _ | exact gg2 _ | exact gg3 _ | exact gg4 _ | exact gg5 _ | (clear hr; split <;> first | rfl | trivial | assumption | (simp_all; done)) | (rw [show r = env + l by rw [hr, depK]; grind]; done) | (rw [show r = env by rw [hr, depK]; grind]; done) | (trace_state; fail))
set_option maxRecDepth 100000 in
set_option maxHeartbeats 4000000 in
theorem ok188 (K T M : Int) (Ex : List (Int × Int)) (Exs : List (List (Int × Int))) (L R : Int) (x y : List (List E)) (hx : x = Ex.map orow) (hy : y = Exs.map orr) :
    Plain Try.prog 188 [.agg [.int K, .int T, .int M, .e (.sl x), .e (.sl y), .int L, .int R]] (.bool (usedI ⟨K, T, M, Ex, Exs, L, R⟩)) := okOf mixed p188 fun A P hA hP => (by
  obtain ⟨zx, hzx⟩ : ∃ z : Int, z = x.length := ⟨_, rfl⟩
  obtain ⟨zy, hzy⟩ : ∃ z : Int, z = y.length := ⟨_, rfl⟩
  have hx0 : (Ex = []) ↔ ¬ 0 < zx := by rw [hzx, hx]; cases Ex <;> simp
  have hy0 : (Exs = []) ↔ ¬ 0 < zy := by rw [hzy, hy]; cases Exs <;> simp
  obtain ⟨r, hr⟩ : ∃ r, r = usedI ⟨K, T, M, Ex, Exs, L, R⟩ := ⟨_, rfl⟩
  rw [← hr]
  simp only [usedI, hx0, hy0] at hr
  clear hx hy hx0 hy0
  obtain ⟨k2, hk2⟩ : ∃ b, b = decide (K = 2) := ⟨_, rfl⟩
  have v2 : A.eq K 2 = k2 := by rw [hA.eq, hk2]
  obtain ⟨k3, hk3⟩ : ∃ b, b = decide (K = 3) := ⟨_, rfl⟩
  have v3 : A.eq K 3 = k3 := by rw [hA.eq, hk3]
  obtain ⟨k4, hk4⟩ : ∃ b, b = decide (K = 4) := ⟨_, rfl⟩
  have v4 : A.eq K 4 = k4 := by rw [hA.eq, hk4]
  obtain ⟨k7, hk7⟩ : ∃ b, b = decide (K = 7) := ⟨_, rfl⟩
  have v7 : A.eq K 7 = k7 := by rw [hA.eq, hk7]
  obtain ⟨k8, hk8⟩ : ∃ b, b = decide (K = 8) := ⟨_, rfl⟩
  have v8 : A.eq K 8 = k8 := by rw [hA.eq, hk8]
  obtain ⟨t0, ht0⟩ : ∃ b, b = decide (T = 0) := ⟨_, rfl⟩
  have vt : A.eq T 0 = t0 := by rw [hA.eq, ht0]
  obtain ⟨m0, hm0⟩ : ∃ b, b = decide (M = 0) := ⟨_, rfl⟩
  have vm0 : A.eq M 0 = m0 := by rw [hA.eq, hm0]
  obtain ⟨m1, hm1⟩ : ∃ b, b = decide (1 < M) := ⟨_, rfl⟩
  have vm1 : A.lt 1 M = m1 := by rw [hA.lt, hm1]
  obtain ⟨m2, hm2⟩ : ∃ b, b = decide (1 ≤ M) := ⟨_, rfl⟩
  have vm2 : A.le 1 M = m2 := by rw [hA.le, hm2]
  obtain ⟨m4, hm4⟩ : ∃ b, b = decide (M ≤ 4) := ⟨_, rfl⟩
  have vm4 : A.le M 4 = m4 := by rw [hA.le, hm4]
  obtain ⟨x0, hx0⟩ : ∃ b, b = decide (0 < zx) := ⟨_, rfl⟩
  have vx0 : A.lt 0 zx = x0 := by rw [hA.lt, hx0]
  obtain ⟨y0, hy0⟩ : ∃ b, b = decide (0 < zy) := ⟨_, rfl⟩
  have vy0 : A.lt 0 zy = y0 := by rw [hA.lt, hy0]
  have hr : r = ((k2 || t0) && ((k8 || m0) && (((k3 || (k7 || (k8 && m1))) || !x0) && ((k4 || !y0) && (!k8 || (m2 && m4)))))) := by
    rw [hr, hk2, hk3, hk4, hk7, hk8, ht0, hm0, hm1, hm2, hm4, hx0, hy0]
    simp only [decide_not, Bool.decide_and]
  clear ht0 hm0 hm1 hm2 hm4 hx0 hy0
  rcases (show K = 2 ∨ K = 3 ∨ K = 4 ∨ K = 7 ∨ K = 8 ∨ (¬ K = 2 ∧ ¬ K = 3 ∧ ¬ K = 4 ∧ ¬ K = 7 ∧ ¬ K = 8) by omega) with c | c | c | c | c | ⟨c2, c3, c4, c7, c8⟩
  all_goals
    first
      | (rw [c] at hk2 hk3 hk4 hk7 hk8
         simp only [Int.reduceEq, decide_true, decide_false] at hk2 hk3 hk4 hk7 hk8)
      | (rw [decide_eq_false c2] at hk2
         rw [decide_eq_false c3] at hk3
         rw [decide_eq_false c4] at hk4
         rw [decide_eq_false c7] at hk7
         rw [decide_eq_false c8] at hk8)
    subst hk2; subst hk3; subst hk4; subst hk7; subst hk8
    simp only [Bool.true_or, Bool.false_or, Bool.or_true, Bool.or_false, Bool.true_and, Bool.false_and, Bool.and_true, Bool.and_false, Bool.not_true, Bool.not_false] at hr
    cbv
    repeat' first | with_reducible rfl | (simp only [vt, vm0, vm1, vm2, vm4, vx0, vy0]; cbv) | (simp only [v2, v3, v4, v7, v8]; cbv) | with_reducible refine And.intro ?_ ?_ | ((with_reducible intro hcc); first | (cases hcc; done) | skip) | ((with_reducible show goC _ _ _ _ _ _ _ _); cbv) | ((with_reducible show goOps _ _ _ _ _); cbv) | ((with_reducible show goD _ _ _ _ _ _); cbv) | ((with_reducible show okWr _ _ = _); rfl) | ((with_reducible refine hA.len x _ _ _ _ fun z hz hb => ?_); (have e6 := hzx.trans hz.symm); subst e6; cbv) | ((with_reducible refine hA.len y _ _ _ _ fun z hz hb => ?_); (have e6 := hzy.trans hz.symm); subst e6; cbv) | ((with_reducible refine hA.fin_pl _ _ _ ?_); cbv) | ((with_reducible refine hA.len _ _ _ _ _ fun z hz hb => ?_); cbv) | ((with_reducible refine hA.gb0 true _ ?_); cbv) | ((with_reducible refine hA.gb0 false _ ?_); cbv) | ((with_reducible refine hA.gb _ _ fun vb hvb => ?_); cbv) | (simp only [hA.natLit, hA.natOf, hA.natCast]; cbv)
    all_goals try simp only [hA.add, hA.sub, hA.mul, hA.neg, hA.div, hA.mod, hA.mn, hA.mx, hA.eq, hA.lt, hA.le, hA.nat, hA.R, hA.lep, hA.ltp, hA.seq, inR, n_cast, Int.ofNat_eq_natCast, Option.getD_some, Option.getD_none] at *
    all_goals first | trivial | exact gg1 _ | exact gg2 _ | exact gg3 _ | exact gg4 _ | exact gg5 _ | (clear hr; split <;> first | rfl | trivial | assumption | (simp_all; done)) | (rw [hr]; grind) | (trace_state; fail))
set_option maxRecDepth 100000 in
set_option maxHeartbeats 4000000 in
theorem ok142 (K T M : Int) (Ex : List (Int × Int)) (Exs : List (List (Int × Int))) (L R : Int) (x y xt : List (List E)) (hx : x = Ex.map orow) (hy : y = Exs.map orr) :
    Plain Try.prog 142 [.agg [.int K, .int T, .int M, .e (.sl x), .e (.sl y), .int L, .int R], .agg [.e (.sl xt)]] (.bool (usedS ⟨K, T, M, Ex, Exs, L, R⟩ xt.length)) := okOf mixed p142 fun A P hA hP => (by
  obtain ⟨zx, hzx⟩ : ∃ z : Int, z = x.length := ⟨_, rfl⟩
  obtain ⟨zy, hzy⟩ : ∃ z : Int, z = y.length := ⟨_, rfl⟩
  obtain ⟨zt, hzt⟩ : ∃ z : Int, z = xt.length := ⟨_, rfl⟩
  have hx0 : (Ex = []) ↔ zx = 0 := by rw [hzx, hx]; cases Ex <;> simp <;> omega
  have hy0 : (Exs = []) ↔ zy = 0 := by rw [hzy, hy]; cases Exs <;> simp <;> omega
  obtain ⟨r, hr⟩ : ∃ r, r = usedS ⟨K, T, M, Ex, Exs, L, R⟩ xt.length := ⟨_, rfl⟩
  rw [← hr]
  simp only [usedS, hx0, hy0, ← hzt] at hr
  clear hx hy hx0 hy0
  obtain ⟨k2, hk2⟩ : ∃ b, b = decide (K = 2) := ⟨_, rfl⟩
  have v2 : A.eq K 2 = k2 := by rw [hA.eq, hk2]
  obtain ⟨k3, hk3⟩ : ∃ b, b = decide (K = 3) := ⟨_, rfl⟩
  have v3 : A.eq K 3 = k3 := by rw [hA.eq, hk3]
  obtain ⟨k4, hk4⟩ : ∃ b, b = decide (K = 4) := ⟨_, rfl⟩
  have v4 : A.eq K 4 = k4 := by rw [hA.eq, hk4]
  obtain ⟨k7, hk7⟩ : ∃ b, b = decide (K = 7) := ⟨_, rfl⟩
  have v7 : A.eq K 7 = k7 := by rw [hA.eq, hk7]
  obtain ⟨k8, hk8⟩ : ∃ b, b = decide (K = 8) := ⟨_, rfl⟩
  have v8 : A.eq K 8 = k8 := by rw [hA.eq, hk8]
  obtain ⟨t0, ht0⟩ : ∃ b, b = decide (T = 0) := ⟨_, rfl⟩
  have vt : A.eq T 0 = t0 := by rw [hA.eq, ht0]
  obtain ⟨t1, ht1⟩ : ∃ b, b = decide (T < 0) := ⟨_, rfl⟩
  have vt1 : A.lt T 0 = t1 := by rw [hA.lt, ht1]
  obtain ⟨t2, ht2⟩ : ∃ b, b = decide (zt ≤ T) := ⟨_, rfl⟩
  have vt2 : A.le zt T = t2 := by rw [hA.le, ht2]
  obtain ⟨m0, hm0⟩ : ∃ b, b = decide (M = 0) := ⟨_, rfl⟩
  have vm0 : A.eq M 0 = m0 := by rw [hA.eq, hm0]
  obtain ⟨m1, hm1⟩ : ∃ b, b = decide (M = 1) := ⟨_, rfl⟩
  have vm1 : A.eq M 1 = m1 := by rw [hA.eq, hm1]
  obtain ⟨m2, hm2⟩ : ∃ b, b = decide (M < 1) := ⟨_, rfl⟩
  have vm2 : A.lt M 1 = m2 := by rw [hA.lt, hm2]
  obtain ⟨m4, hm4⟩ : ∃ b, b = decide (4 < M) := ⟨_, rfl⟩
  have vm4 : A.lt 4 M = m4 := by rw [hA.lt, hm4]
  obtain ⟨x0, hx0⟩ : ∃ b, b = decide (zx = 0) := ⟨_, rfl⟩
  have vx0 : A.eq zx 0 = x0 := by rw [hA.eq, hx0]
  obtain ⟨y0, hy0⟩ : ∃ b, b = decide (zy = 0) := ⟨_, rfl⟩
  have vy0 : A.eq zy 0 = y0 := by rw [hA.eq, hy0]
  have hr : r = ((k2 || t0) && ((!k2 || (!t1 && !t2)) && ((k8 || m0) && ((!k8 || (!m2 && !m4)) && (((k3 || (k7 || (k8 && !m1))) || x0) && (k4 || y0)))))) := by
    rw [hr, hk2, hk3, hk4, hk7, hk8, ht0, ht1, ht2, hm0, hm1, hm2, hm4, hx0, hy0]
    simp only [← decide_not, Int.not_lt, Int.not_le, ne_eq, Bool.decide_and]
  clear ht0 ht1 ht2 hm0 hm1 hm2 hm4 hx0 hy0
  rcases (show K = 2 ∨ K = 3 ∨ K = 4 ∨ K = 7 ∨ K = 8 ∨ (¬ K = 2 ∧ ¬ K = 3 ∧ ¬ K = 4 ∧ ¬ K = 7 ∧ ¬ K = 8) by omega) with c | c | c | c | c | ⟨c2, c3, c4, c7, c8⟩
  all_goals
    first
      | (rw [c] at hk2 hk3 hk4 hk7 hk8
         simp only [Int.reduceEq, decide_true, decide_false] at hk2 hk3 hk4 hk7 hk8)
      | (rw [decide_eq_false c2] at hk2
         rw [decide_eq_false c3] at hk3
         rw [decide_eq_false c4] at hk4
         rw [decide_eq_false c7] at hk7
         rw [decide_eq_false c8] at hk8)
    subst hk2; subst hk3; subst hk4; subst hk7; subst hk8
    simp only [Bool.true_or, Bool.false_or, Bool.or_true, Bool.or_false, Bool.true_and, Bool.false_and, Bool.and_true, Bool.and_false, Bool.not_true, Bool.not_false] at hr
    cbv
    repeat' first | with_reducible rfl | (simp only [vt, vt1, vt2, vm0, vm1, vm2, vm4, vx0, vy0]; cbv) | (simp only [v2, v3, v4, v7, v8]; cbv) | with_reducible refine And.intro ?_ ?_ | ((with_reducible intro hcc); first | (cases hcc; done) | skip) | ((with_reducible show goC _ _ _ _ _ _ _ _); cbv) | ((with_reducible show goOps _ _ _ _ _); cbv) | ((with_reducible show goD _ _ _ _ _ _); cbv) | ((with_reducible show okWr _ _ = _); rfl) | ((with_reducible refine hA.len x _ _ _ _ fun z hz hb => ?_); (have e6 := hzx.trans hz.symm); subst e6; cbv) | ((with_reducible refine hA.len y _ _ _ _ fun z hz hb => ?_); (have e6 := hzy.trans hz.symm); subst e6; cbv) | ((with_reducible refine hA.len xt _ _ _ _ fun z hz hb => ?_); (have e6 := hzt.trans hz.symm); subst e6; cbv) | ((with_reducible refine hA.fin_pl _ _ _ ?_); cbv) | ((with_reducible refine hA.len _ _ _ _ _ fun z hz hb => ?_); cbv) | ((with_reducible refine hA.gb0 true _ ?_); cbv) | ((with_reducible refine hA.gb0 false _ ?_); cbv) | ((with_reducible refine hA.gb _ _ fun vb hvb => ?_); cbv) | (simp only [hA.natLit, hA.natOf, hA.natCast]; cbv)
    all_goals try simp only [hA.add, hA.sub, hA.mul, hA.neg, hA.div, hA.mod, hA.mn, hA.mx, hA.eq, hA.lt, hA.le, hA.nat, hA.R, hA.lep, hA.ltp, hA.seq, inR, n_cast, Int.ofNat_eq_natCast, Option.getD_some, Option.getD_none] at *
    all_goals first | trivial | exact gg1 _ | exact gg2 _ | exact gg3 _ | exact gg4 _ | exact gg5 _ | (clear hr; split <;> first | rfl | trivial | assumption | (simp_all; done)) | (rw [hr]; grind) | (trace_state; fail))
end Go.Proofs.Ytfplalbognalkaa.Ab
/- Plans: where stretches begin, by the specification. -/
namespace Go.Proofs.Ytfplalbognalkaa.Ab
open Go
theorem pd_at {ns : List Pd} {es : List (List E)} (he : es = ns.map pdr) {i : Int} (h : 0 ≤ i ∧ i < es.length) : ∃ K T M Ex Exs L R xe ye, ns.getD i.toNat default = ⟨K, T, M, Ex, Exs, L, R⟩ ∧ (⟨K, T, M, Ex, Exs, L, R⟩ : Pd) ∈ ns ∧ xe = Ex.map orow ∧ ye = Exs.map orr ∧ es.getD i.toNat [] = [E.int K, E.int T, E.int M, E.sl xe, E.sl ye, E.int L, E.int R] := by
  obtain ⟨⟨K, T, M, Ex, Exs, L, R⟩, e, q⟩ := row_at he h
  exact ⟨K, T, M, Ex, Exs, L, R, _, _, by simp [List.getD, q], List.mem_of_getElem? q, rfl, rfl, e⟩
theorem l3F_le (ns : List Pd) (n : Nat) (i : Int) (h : -1 ≤ i) : l3F ns n i ≤ i := by
  by_cases h0 : 0 ≤ i
  · rw [← frN_eq ns n i h0]; exact frN_le ns n i h
  · rw [l3F_neg ns n (by omega)]; exact h
set_option maxRecDepth 100000 in
set_option maxHeartbeats 4000000 in
theorem ok81 (ns : List Pd) (x : List (List E)) (hx : x = ns.map pdr) (hxl : x.length ≤ 1048576) : ∀ (n : Nat) (i : Int), -1 ≤ i → i < n → i < x.length → Plain Try.prog 81 [.e (.sl x), .int i] (.int (l3F ns n i)) := by
  intro n
  induction n with
  | zero =>
    intro i h1 h2 h3
    rw [l3F_neg ns 0 (by omega)]
    refine okOf mixed p81 fun A P hA hP => ?_
    have e0 : A.lt i 0 = true := by rw [hA.lt]; exact decide_eq_true (by omega)
    cbv
    repeat' first | with_reducible rfl | (simp only [e0]; cbv) | with_reducible refine And.intro ?_ ?_ | ((with_reducible intro hcc); first | (cases hcc; done) | skip) | ((with_reducible show goC _ _ _ _ _ _ _ _); cbv) | ((with_reducible show goOps _ _ _ _ _); cbv) | ((with_reducible show goD _ _ _ _ _ _); cbv) | ((with_reducible show okWr _ _ = _); rfl) | ((with_reducible refine hA.row0 _ _ _ fun p row => ?_); cbv) | ((with_reducible show A.call _ _ _ _ false _ _ _ _); refine callK_no hA (.int 0) ?_; cbv) | ((with_reducible refine hA.fin_pl _ _ _ ?_); cbv) | ((with_reducible refine hA.off _ _ _ _ fun b hb => ?_); cbv) | ((with_reducible refine hA.plus _ _ _ fun b hb => ?_); cbv) | ((with_reducible refine hA.st _ _ _ _ _ ⟨?_, fun ds hds => ?_⟩); rotate_left; cbv) | ((with_reducible refine hA.gb0 true _ ?_); cbv) | ((with_reducible refine hA.gb0 false _ ?_); cbv) | ((with_reducible refine hA.gb _ _ fun vb hvb => ?_); cbv) | (simp only [hA.natLit, hA.natOf, hA.natCast]; cbv)
    all_goals try simp only [hA.add, hA.sub, hA.mul, hA.neg, hA.div, hA.mod, hA.mn, hA.mx, hA.eq, hA.lt, hA.le, hA.nat, hA.R, hA.lep, hA.ltp, hA.seq, inR, n_cast, Int.ofNat_eq_natCast, Option.getD_some, Option.getD_none] at *
    all_goals first | rfl | trivial | (trace_state; fail)
  | succ n ih =>
    intro i h1 h2 h3
    by_cases hi : i < 0
    · rw [l3F_neg ns (n + 1) hi]
      refine okOf mixed p81 fun A P hA hP => ?_
      have e0 : A.lt i 0 = true := by rw [hA.lt]; exact decide_eq_true (by omega)
      cbv
      repeat' first | with_reducible rfl | (simp only [e0]; cbv) | with_reducible refine And.intro ?_ ?_ | ((with_reducible intro hcc); first | (cases hcc; done) | skip) | ((with_reducible show goC _ _ _ _ _ _ _ _); cbv) | ((with_reducible show goOps _ _ _ _ _); cbv) | ((with_reducible show goD _ _ _ _ _ _); cbv) | ((with_reducible show okWr _ _ = _); rfl) | ((with_reducible refine hA.row0 _ _ _ fun p row => ?_); cbv) | ((with_reducible show A.call _ _ _ _ false _ _ _ _); refine callK_no hA (.int 0) ?_; cbv) | ((with_reducible refine hA.fin_pl _ _ _ ?_); cbv) | ((with_reducible refine hA.off _ _ _ _ fun b hb => ?_); cbv) | ((with_reducible refine hA.plus _ _ _ fun b hb => ?_); cbv) | ((with_reducible refine hA.st _ _ _ _ _ ⟨?_, fun ds hds => ?_⟩); rotate_left; cbv) | ((with_reducible refine hA.gb0 true _ ?_); cbv) | ((with_reducible refine hA.gb0 false _ ?_); cbv) | ((with_reducible refine hA.gb _ _ fun vb hvb => ?_); cbv) | (simp only [hA.natLit, hA.natOf, hA.natCast]; cbv)
      all_goals try simp only [hA.add, hA.sub, hA.mul, hA.neg, hA.div, hA.mod, hA.mn, hA.mx, hA.eq, hA.lt, hA.le, hA.nat, hA.R, hA.lep, hA.ltp, hA.seq, inR, n_cast, Int.ofNat_eq_natCast, Option.getD_some, Option.getD_none] at *
      all_goals first | rfl | trivial | (trace_state; fail)
    · have hix : (0 : Int) ≤ i ∧ i < x.length := by omega
      obtain ⟨K, T, M, Ex, Exs, L, R, xe, ye, q0, qm, hxe, hye, q1⟩ := pd_at hx hix
      obtain ⟨r, hr⟩ : ∃ r, r = l3F ns (n + 1) i := ⟨_, rfl⟩
      rw [← hr]
      simp only [l3F] at hr
      rw [q0] at hr
      simp only at hr
      have ih1 := ih (i - 1) (by omega) (by omega) (by omega)
      obtain ⟨a, ha⟩ : ∃ a, a = l3F ns n (i - 1) := ⟨_, rfl⟩
      have hal := l3F_le ns n (i - 1) (by omega)
      have hal2 := l3F_lo ns n (i - 1)
      rw [← ha] at ih1 hr hal hal2
      have ih2 : 1 ≤ a → Plain Try.prog 81 [.e (.sl x), .int (a - 1)] (.int (l3F ns n (a - 1))) := fun h => ih (a - 1) (by omega) (by omega) (by omega)
      obtain ⟨b, hb⟩ : ∃ b, b = l3F ns n (a - 1) := ⟨_, rfl⟩
      rw [← hb] at ih2 hr
      refine okOf mixed p81 fun A P hA hP => ?_
      have e0 : A.lt i 0 = false := by rw [hA.lt]; exact decide_eq_false (by omega)
      have h288 := ok141 K
      obtain ⟨kn, hkn⟩ : ∃ k, k = kidsN K := ⟨_, rfl⟩
      rw [← hkn] at h288
      obtain ⟨i1, hi1⟩ : ∃ z, z = A.sub i 1 := ⟨_, rfl⟩
      have hi1' : i1 = i - 1 := by rw [hi1, hA.sub]
      obtain ⟨a1, ha1⟩ : ∃ z, z = A.sub a 1 := ⟨_, rfl⟩
      have ha1' : a1 = a - 1 := by rw [ha1, hA.sub]
      rw [← hi1'] at ih1 hr
      rw [← ha1'] at ih2 hr
      obtain ⟨l0, hl0⟩ : ∃ b, b = decide (L = 0) := ⟨_, rfl⟩
      have vl0 : A.eq L 0 = l0 := by rw [hA.eq, hl0]
      obtain ⟨r0, hr0⟩ : ∃ b, b = decide (R = 0) := ⟨_, rfl⟩
      have vr0 : A.eq R 0 = r0 := by rw [hA.eq, hr0]
      obtain ⟨li, hli⟩ : ∃ b, b = decide (L = i1) := ⟨_, rfl⟩
      have vli : A.eq L i1 = li := by rw [hA.eq, hli]
      obtain ⟨ri, hri⟩ : ∃ b, b = decide (R = i1) := ⟨_, rfl⟩
      have vri : A.eq R i1 = ri := by rw [hA.eq, hri]
      obtain ⟨la, hla⟩ : ∃ b, b = decide (L = a1) := ⟨_, rfl⟩
      have vla : A.eq L a1 = la := by rw [hA.eq, hla]
      obtain ⟨aa, haa⟩ : ∃ b, b = decide (a < 1) := ⟨_, rfl⟩
      have vaa : A.lt a 1 = aa := by rw [hA.lt, haa]
      clear hb ih ha q0 qm
      rcases (show (¬ (1 ≤ K ∧ K ≤ 10)) ∨ (K = 1 ∨ K = 2) ∨ (K = 3 ∨ K = 4 ∨ K = 9) ∨ (5 ≤ K ∧ K ≤ 8 ∨ K = 10) by omega) with c | c | c | c
      · have : kn = -1 := by rw [hkn, kidsN, if_neg (by omega), if_neg (by omega), if_neg c]
        have e1 : A.lt kn 0 = true := by rw [hA.lt]; exact decide_eq_true (by omega)
        have hr2 : r = -1 := by rw [hr, if_pos (.inr c)]
        clear hr
        cbv
        repeat' first | with_reducible rfl | (simp only [e1]; cbv) | (simp only [e0]; cbv) | with_reducible refine And.intro ?_ ?_ | ((with_reducible intro hcc); first | (cases hcc; done) | skip) | ((with_reducible show goC _ _ _ _ _ _ _ _); cbv) | ((with_reducible show goOps _ _ _ _ _); cbv) | ((with_reducible show goD _ _ _ _ _ _); cbv) | ((with_reducible show okWr _ _ = _); rfl) | ((with_reducible refine callK_eq hA hP ?_ ?_ ?_ (Wks.refl _) (fun _ _ => h288)); exact rfl; exact rfl; cbv) | ((with_reducible refine hA.row x i _ ⟨hix, fun row hrow => ?_⟩); rw [q1] at hrow; subst hrow; cbv) | ((with_reducible refine hA.fin_pl _ _ _ ?_); cbv) | ((with_reducible refine hA.off _ _ _ _ fun b hb => ?_); cbv) | ((with_reducible refine hA.plus _ _ _ fun b hb => ?_); cbv) | ((with_reducible refine hA.st _ _ _ _ _ ⟨?_, fun ds hds => ?_⟩); rotate_left; cbv) | ((with_reducible refine hA.gb0 true _ ?_); cbv) | ((with_reducible refine hA.gb0 false _ ?_); cbv) | ((with_reducible refine hA.gb _ _ fun vb hvb => ?_); cbv) | (simp only [hA.natLit, hA.natOf, hA.natCast]; cbv)
        all_goals try simp only [hA.add, hA.sub, hA.mul, hA.neg, hA.div, hA.mod, hA.mn, hA.mx, hA.eq, hA.lt, hA.le, hA.nat, hA.R, hA.lep, hA.ltp, hA.seq, inR, n_cast, Int.ofNat_eq_natCast, Option.getD_some, Option.getD_none] at *
        all_goals first | omega | (rw [hr2]; done) | trivial | (trace_state; fail)
      · have : kn = 0 := by rw [hkn, kidsN, if_pos c]
        have e1 : A.lt kn 0 = false := by rw [hA.lt]; exact decide_eq_false (by omega)
        have e2 : A.eq kn 0 = true := by rw [hA.eq]; exact decide_eq_true (by omega)
        rw [if_neg (by omega), if_pos c] at hr
        have hr2 : r = if (!l0 || !r0) = true then -1 else i := by rw [hr, hl0, hr0]; simp
        clear hr hl0 hr0
        cases l0 <;> cases r0
        all_goals
          cbv
          repeat' first | with_reducible rfl | (simp only [vr0]; cbv) | (simp only [vl0]; cbv) | (simp only [e2]; cbv) | (simp only [e1]; cbv) | (simp only [e0]; cbv) | with_reducible refine And.intro ?_ ?_ | ((with_reducible intro hcc); first | (cases hcc; done) | skip) | ((with_reducible show goC _ _ _ _ _ _ _ _); cbv) | ((with_reducible show goOps _ _ _ _ _); cbv) | ((with_reducible show goD _ _ _ _ _ _); cbv) | ((with_reducible show okWr _ _ = _); rfl) | ((with_reducible refine callK_eq hA hP ?_ ?_ ?_ (Wks.refl _) (fun _ _ => h288)); exact rfl; exact rfl; cbv) | ((with_reducible refine hA.row x i _ ⟨hix, fun row hrow => ?_⟩); rw [q1] at hrow; subst hrow; cbv) | ((with_reducible refine hA.fin_pl _ _ _ ?_); cbv) | ((with_reducible refine hA.off _ _ _ _ fun b hb => ?_); cbv) | ((with_reducible refine hA.plus _ _ _ fun b hb => ?_); cbv) | ((with_reducible refine hA.st _ _ _ _ _ ⟨?_, fun ds hds => ?_⟩); rotate_left; cbv) | ((with_reducible refine hA.gb0 true _ ?_); cbv) | ((with_reducible refine hA.gb0 false _ ?_); cbv) | ((with_reducible refine hA.gb _ _ fun vb hvb => ?_); cbv) | (simp only [hA.natLit, hA.natOf, hA.natCast]; cbv)
          all_goals try simp only [hA.add, hA.sub, hA.mul, hA.neg, hA.div, hA.mod, hA.mn, hA.mx, hA.eq, hA.lt, hA.le, hA.nat, hA.R, hA.lep, hA.ltp, hA.seq, inR, n_cast, Int.ofNat_eq_natCast, Option.getD_some, Option.getD_none] at *
          all_goals first | omega | (rw [hr2]; done) | (rw [hr2]; rfl) | trivial | (trace_state; fail)
      · have hrf : hasR K = false := by rw [hasR]; simp; omega
        have : kn = 1 := by rw [hkn, kidsN, if_neg (by omega), if_pos c]
        have e1 : A.lt kn 0 = false := by rw [hA.lt]; exact decide_eq_false (by omega)
        have e2 : A.eq kn 0 = false := by rw [hA.eq]; exact decide_eq_false (by omega)
        have e3 : A.eq kn 1 = true := by rw [hA.eq]; exact decide_eq_true (by omega)
        rw [if_neg (by omega), if_neg (by omega), if_pos hrf] at hr
        have hr2 : r = if (!li || !r0) = true then -1 else a := by rw [hr, hli, hr0]; simp
        clear hr hli hr0
        cases li <;> cases r0
        all_goals
          cbv
          repeat' first | with_reducible rfl | (simp only [vr0]; cbv) | (simp only [vli]; cbv) | (simp only [← hi1]; cbv) | (simp only [e3]; cbv) | (simp only [e2]; cbv) | (simp only [e1]; cbv) | (simp only [e0]; cbv) | with_reducible refine And.intro ?_ ?_ | ((with_reducible intro hcc); first | (cases hcc; done) | skip) | ((with_reducible show goC _ _ _ _ _ _ _ _); cbv) | ((with_reducible show goOps _ _ _ _ _); cbv) | ((with_reducible show goD _ _ _ _ _ _); cbv) | ((with_reducible show okWr _ _ = _); rfl) | ((with_reducible refine callK_eq hA hP ?_ ?_ ?_ (Wks.refl _) (fun _ _ => h288)); exact rfl; exact rfl; cbv) | ((with_reducible refine callK_eq hA hP ?_ ?_ ?_ (Wks.refl _) (fun _ _ => ih1)); exact rfl; exact rfl; cbv) | ((with_reducible refine hA.row x i _ ⟨hix, fun row hrow => ?_⟩); rw [q1] at hrow; subst hrow; cbv) | ((with_reducible refine hA.fin_pl _ _ _ ?_); cbv) | ((with_reducible refine hA.off _ _ _ _ fun b hb => ?_); cbv) | ((with_reducible refine hA.plus _ _ _ fun b hb => ?_); cbv) | ((with_reducible refine hA.st _ _ _ _ _ ⟨?_, fun ds hds => ?_⟩); rotate_left; cbv) | ((with_reducible refine hA.gb0 true _ ?_); cbv) | ((with_reducible refine hA.gb0 false _ ?_); cbv) | ((with_reducible refine hA.gb _ _ fun vb hvb => ?_); cbv) | (simp only [hA.natLit, hA.natOf, hA.natCast]; cbv)
          all_goals try simp only [hA.add, hA.sub, hA.mul, hA.neg, hA.div, hA.mod, hA.mn, hA.mx, hA.eq, hA.lt, hA.le, hA.nat, hA.R, hA.lep, hA.ltp, hA.seq, inR, n_cast, Int.ofNat_eq_natCast, Option.getD_some, Option.getD_none] at *
          all_goals first | omega | (rw [hr2]; done) | (rw [hr2]; rfl) | trivial | (trace_state; fail)
      · have hrf : hasR K = true := by rw [hasR]; simp; omega
        have : kn = 2 := by rw [hkn, kidsN, if_neg (by omega), if_neg (by omega), if_pos (by omega)]
        have e1 : A.lt kn 0 = false := by rw [hA.lt]; exact decide_eq_false (by omega)
        have e2 : A.eq kn 0 = false := by rw [hA.eq]; exact decide_eq_false (by omega)
        have e3 : A.eq kn 1 = false := by rw [hA.eq]; exact decide_eq_false (by omega)
        rw [if_neg (by omega), if_neg (by omega), if_neg (by rw [hrf]; simp)] at hr
        have hr2 : r = if ri = false then -1 else if (aa || !la) = true then -1 else b := by rw [hr, hri, haa, hla]; simp
        have haa' : aa = false → 1 ≤ a := fun h => by rw [haa] at h; have := of_decide_eq_false h; omega
        clear hr hri haa hla
        cases ri
        · skip
          cbv
          repeat' first | with_reducible rfl | (simp only [vri]; cbv) | (simp only [← hi1]; cbv) | (simp only [e3]; cbv) | (simp only [e2]; cbv) | (simp only [e1]; cbv) | (simp only [e0]; cbv) | with_reducible refine And.intro ?_ ?_ | ((with_reducible intro hcc); first | (cases hcc; done) | skip) | ((with_reducible show goC _ _ _ _ _ _ _ _); cbv) | ((with_reducible show goOps _ _ _ _ _); cbv) | ((with_reducible show goD _ _ _ _ _ _); cbv) | ((with_reducible show okWr _ _ = _); rfl) | ((with_reducible refine callK_eq hA hP ?_ ?_ ?_ (Wks.refl _) (fun _ _ => h288)); exact rfl; exact rfl; cbv) | ((with_reducible refine hA.row x i _ ⟨hix, fun row hrow => ?_⟩); rw [q1] at hrow; subst hrow; cbv) | ((with_reducible refine hA.fin_pl _ _ _ ?_); cbv) | ((with_reducible refine hA.off _ _ _ _ fun b hb => ?_); cbv) | ((with_reducible refine hA.plus _ _ _ fun b hb => ?_); cbv) | ((with_reducible refine hA.st _ _ _ _ _ ⟨?_, fun ds hds => ?_⟩); rotate_left; cbv) | ((with_reducible refine hA.gb0 true _ ?_); cbv) | ((with_reducible refine hA.gb0 false _ ?_); cbv) | ((with_reducible refine hA.gb _ _ fun vb hvb => ?_); cbv) | (simp only [hA.natLit, hA.natOf, hA.natCast]; cbv)
          all_goals try simp only [hA.add, hA.sub, hA.mul, hA.neg, hA.div, hA.mod, hA.mn, hA.mx, hA.eq, hA.lt, hA.le, hA.nat, hA.R, hA.lep, hA.ltp, hA.seq, inR, n_cast, Int.ofNat_eq_natCast, Option.getD_some, Option.getD_none] at *
          all_goals first | omega | (rw [hr2]; done) | (rw [hr2]; rfl) | trivial | (trace_state; fail)
        · cases aa
          · have ih2 := ih2 (haa' rfl)
            cases la
            all_goals
              cbv
              repeat' first | with_reducible rfl | (simp only [vla]; cbv) | (simp only [vaa]; cbv) | (simp only [vri]; cbv) | (simp only [← ha1]; cbv) | (simp only [← hi1]; cbv) | (simp only [e3]; cbv) | (simp only [e2]; cbv) | (simp only [e1]; cbv) | (simp only [e0]; cbv) | with_reducible refine And.intro ?_ ?_ | ((with_reducible intro hcc); first | (cases hcc; done) | skip) | ((with_reducible show goC _ _ _ _ _ _ _ _); cbv) | ((with_reducible show goOps _ _ _ _ _); cbv) | ((with_reducible show goD _ _ _ _ _ _); cbv) | ((with_reducible show okWr _ _ = _); rfl) | ((with_reducible refine callK_eq hA hP ?_ ?_ ?_ (Wks.refl _) (fun _ _ => h288)); exact rfl; exact rfl; cbv) | ((with_reducible refine callK_eq hA hP ?_ ?_ ?_ (Wks.refl _) (fun _ _ => ih1)); exact rfl; exact rfl; cbv) | ((with_reducible refine callK_eq hA hP ?_ ?_ ?_ (Wks.refl _) (fun _ _ => ih2)); exact rfl; exact rfl; cbv) | ((with_reducible refine hA.row x i _ ⟨hix, fun row hrow => ?_⟩); rw [q1] at hrow; subst hrow; cbv) | ((with_reducible refine hA.fin_pl _ _ _ ?_); cbv) | ((with_reducible refine hA.off _ _ _ _ fun b hb => ?_); cbv) | ((with_reducible refine hA.plus _ _ _ fun b hb => ?_); cbv) | ((with_reducible refine hA.st _ _ _ _ _ ⟨?_, fun ds hds => ?_⟩); rotate_left; cbv) | ((with_reducible refine hA.gb0 true _ ?_); cbv) | ((with_reducible refine hA.gb0 false _ ?_); cbv) | ((with_reducible refine hA.gb _ _ fun vb hvb => ?_); cbv) | (simp only [hA.natLit, hA.natOf, hA.natCast]; cbv)
              all_goals try simp only [hA.add, hA.sub, hA.mul, hA.neg, hA.div, hA.mod, hA.mn, hA.mx, hA.eq, hA.lt, hA.le, hA.nat, hA.R, hA.lep, hA.ltp, hA.seq, inR, n_cast, Int.ofNat_eq_natCast, Option.getD_some, Option.getD_none] at *
              all_goals first | omega | (rw [hr2]; done) | (rw [hr2]; rfl) | trivial | (trace_state; fail)
          · skip
            cbv
            repeat' first | with_reducible rfl | (simp only [vaa]; cbv) | (simp only [vri]; cbv) | (simp only [← ha1]; cbv) | (simp only [← hi1]; cbv) | (simp only [e3]; cbv) | (simp only [e2]; cbv) | (simp only [e1]; cbv) | (simp only [e0]; cbv) | with_reducible refine And.intro ?_ ?_ | ((with_reducible intro hcc); first | (cases hcc; done) | skip) | ((with_reducible show goC _ _ _ _ _ _ _ _); cbv) | ((with_reducible show goOps _ _ _ _ _); cbv) | ((with_reducible show goD _ _ _ _ _ _); cbv) | ((with_reducible show okWr _ _ = _); rfl) | ((with_reducible refine callK_eq hA hP ?_ ?_ ?_ (Wks.refl _) (fun _ _ => h288)); exact rfl; exact rfl; cbv) | ((with_reducible refine callK_eq hA hP ?_ ?_ ?_ (Wks.refl _) (fun _ _ => ih1)); exact rfl; exact rfl; cbv) | ((with_reducible refine hA.row x i _ ⟨hix, fun row hrow => ?_⟩); rw [q1] at hrow; subst hrow; cbv) | ((with_reducible refine hA.fin_pl _ _ _ ?_); cbv) | ((with_reducible refine hA.off _ _ _ _ fun b hb => ?_); cbv) | ((with_reducible refine hA.plus _ _ _ fun b hb => ?_); cbv) | ((with_reducible refine hA.st _ _ _ _ _ ⟨?_, fun ds hds => ?_⟩); rotate_left; cbv) | ((with_reducible refine hA.gb0 true _ ?_); cbv) | ((with_reducible refine hA.gb0 false _ ?_); cbv) | ((with_reducible refine hA.gb _ _ fun vb hvb => ?_); cbv) | (simp only [hA.natLit, hA.natOf, hA.natCast]; cbv)
            all_goals try simp only [hA.add, hA.sub, hA.mul, hA.neg, hA.div, hA.mod, hA.mn, hA.mx, hA.eq, hA.lt, hA.le, hA.nat, hA.R, hA.lep, hA.ltp, hA.seq, inR, n_cast, Int.ofNat_eq_natCast, Option.getD_some, Option.getD_none] at *
            all_goals first | omega | (rw [hr2]; done) | (rw [hr2]; rfl) | trivial | (trace_state; fail)
end Go.Proofs.Ytfplalbognalkaa.Ab
