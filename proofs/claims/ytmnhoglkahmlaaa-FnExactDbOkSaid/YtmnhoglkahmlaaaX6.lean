/- Tables: valid, by the program. -/
import Derived.Test.YtmnhoglkahmlaaaX5
set_option linter.unusedSimpArgs false
set_option linter.unusedVariables false
set_option linter.unnecessarySimpa false
set_option linter.constructorNameAsVariable false
namespace Go.Proofs.Ytmnhoglkahmlaaa.Ab
open Go
theorem mlook_mset (l : List (List UInt8 × E)) (k : List UInt8) (v : E) (n : List UInt8) : mlook (mset l k v) n = if k = n then some v else mlook l n := by
  induction l with
  | nil => rfl
  | cons p l ih =>
    simp only [mset]
    by_cases h : p.1 = k
    · rw [if_pos h]
      simp only [mlook]
      by_cases h2 : k = n
      · rw [if_pos h2, if_pos h2]
      · rw [if_neg h2, if_neg h2, if_neg (by rw [h]; exact h2)]
    · rw [if_neg h]
      simp only [mlook]
      by_cases h3 : p.1 = n
      · rw [if_pos h3, if_pos h3, if_neg (fun e => h (h3.trans e.symm))]
      · rw [if_neg h3, if_neg h3, ih]
set_option maxRecDepth 100000 in
set_option maxHeartbeats 2000000 in
theorem ok38 (ts : List Tb) (x : List (List E)) (hx : x = ts.map tbr) (hsz : cTS ts ≤ 1048576) : Plain Try.prog 38 [.agg [.e (.sl x)]] (.bool (dbOk ts)) := okOf mixed p38 fun A P hA hP => (by
  have hl : x.length = ts.length := by rw [hx]; simp
  obtain ⟨d1, d2, d3⟩ := dbF ts
  obtain ⟨r, hr⟩ : ∃ r, r = dbOk ts := ⟨_, rfl⟩
  rw [← hr] at d1 d2 d3 ⊢
  clear hr
  cbv
  repeat' first | with_reducible rfl | with_reducible refine And.intro ?_ ?_ | with_reducible intro _ | ((with_reducible show goC _ _ _ _ _ _ _ _); cbv) | ((with_reducible show goOps _ _ _ _ _); cbv) | ((with_reducible show okWr _ _ = _); rfl) | ((with_reducible refine hA.fin_pl _ _ _ ?_); cbv) | ((with_reducible refine hA.len _ _ _ _ _ fun z hz hb => ?_); cbv) | ((with_reducible refine hA.slen _ _ _ _ _ fun z hz hb => ?_); cbv) | ((with_reducible refine hA.off _ _ _ _ fun b hb => ?_); cbv) | ((with_reducible refine hA.plus _ _ _ fun b hb => ?_); cbv) | ((with_reducible refine hA.rep _ _ _ fun ds m hds hm => ?_); cbv) | ((with_reducible refine hA.app _ _ _ _ _ ⟨?_, fun zs m hzs hm => ?_⟩); rotate_left; cbv) | ((with_reducible refine hA.app0 _ _ _ ⟨?_, fun m hm => ?_⟩); rotate_left; cbv) | ((with_reducible refine hA.slc _ _ _ _ _ ⟨?_, fun zs hzs => ?_⟩); rotate_left; cbv) | ((with_reducible refine hA.st _ _ _ _ _ ⟨?_, fun ds hds => ?_⟩); rotate_left; cbv) | ((with_reducible refine hA.alt _ _ (Or.inl ?_)); cbv) | ((with_reducible refine hA.appv _ _ _ _ _ _ ⟨?_, fun bb m ds hbb hm hds => ?_⟩); rotate_left; cbv) | ((with_reducible refine hA.vsl _ _ _ _ ⟨?_, fun m hm => ?_⟩); rotate_left; cbv) | ((with_reducible refine hA.six _ _ _ fun z6 c hz6 hc hc2 => ?_); cbv) | ((with_reducible refine hA.ssl _ _ _ _ ⟨?_, fun sl hsl => ?_⟩); rotate_left; cbv) | ((with_reducible refine hA.sapp _ _ _ ⟨?_, fun sl hsl => ?_⟩); rotate_left; cbv) | ((with_reducible refine hA.s2b _ _ fun es hes => ?_); cbv) | ((with_reducible refine hA.gb0 true _ ?_); cbv) | ((with_reducible refine hA.gb0 false _ ?_); cbv) | ((with_reducible refine hA.gb _ _ fun vb hvb => ?_); cbv) | ((with_reducible refine hA.mget _ _ _ _ ⟨fun mv hmv => ?_, fun hmv => ?_⟩) <;> cbv) | ((with_reducible refine hA.mset _ _ _ _ fun ml hml => ?_); cbv) | (simp only [hA.natLit, hA.natOf, hA.natCast]; cbv)
  all_goals try simp only [hA.add, hA.sub, hA.mul, hA.neg, hA.div, hA.mod, hA.mn, hA.mx, hA.eq, hA.lt, hA.le, hA.nat, hA.R, hA.lep, hA.ltp, hA.seq, inR, n_cast, Int.ofNat_eq_natCast, Option.getD_some, Option.getD_none] at *
  all_goals try (first | (rw [d1 (by simp at *; omega)]; done))
  have h50 : ts.length ≤ 50 := by clear d1 d2 d3; simp at *; omega
  have hrn := sz_rows ts
  refine hA.loopI (fun m s => ∃ (i rows zz : Int) (ml : List (List UInt8 × E)), 0 ≤ i ∧ zz = x.length ∧ m + i = zz ∧ 0 ≤ rows ∧ rows + sumC rlen (ts.drop i.toNat) = sumC rlen ts ∧ (∀ (j : Nat) t, (j : Int) < i → ts[j]? = some t → good ts j t = true) ∧
      (∀ n, (∃ v, mlook ml n = some v) ↔ ∃ (j : Nat) (t : Tb), (j : Int) < i ∧ ts[j]? = some t ∧ t.1 = n) ∧
      s = ⟨[(19, .int i), (18, .int zz), (17, .e (.sl x)), (4, .int rows), (3, .mp 1), (2, .bool false), (1, .ref 0 0)], [.box [.e (.sl x)], .smap ml]⟩) x.length _
    (Weak.keep (env' := [(19, .int 0), (18, .int z), (17, .e (.sl x)), (4, .int 0), (3, .mp 1), (2, .bool false), (1, .ref 0 0)]) ⟨rfl, rfl, rfl, rfl, rfl, rfl, rfl, trivial⟩)
    ⟨0, 0, z, [], by omega, by omega, by omega, by omega, (by simp), (fun j t hj => by omega), (fun n => ⟨fun ⟨v, hv⟩ => (by simp [mlook] at hv), fun ⟨j, t, hj, _⟩ => (by omega)⟩), rfl⟩ ?_
  rintro m s K ⟨i, rows, zz, ml0, h0, hzz, h1, h2, h3, h4, h5, rfl⟩ hK
  by_cases hin : (0 : Int) ≤ i ∧ i < x.length
  · obtain ⟨⟨n1, c1, rs1⟩, e1, q1⟩ := row_at hx hin
    obtain ⟨x1, hx1⟩ : ∃ y, y = rs1.map rsr := ⟨_, rfl⟩
    have e1 : x.getD i.toNat [] = [E.str n1, E.int c1, E.sl x1] := e1.trans (by rw [hx1])
    have hl1 : x1.length = rs1.length := by rw [hx1]; simp
    rw [sumC_drop q1] at h3
    have hS := sumC_nonneg rlen_nonneg (ts.drop (i.toNat + 1))
    have hrl : rlen (n1, c1, rs1) = x1.length := by rw [hl1]; rfl
    have hd := d2 i.toNat _ q1
    have gi := good_iff (ts := ts) (i := i.toNat) (n := n1) (c := c1) (rs := rs1)
    obtain ⟨g, hg⟩ : ∃ g, g = good ts i.toNat (n1, c1, rs1) := ⟨_, rfl⟩
    rw [← hg] at hd gi
    obtain ⟨nb, hnb⟩ : ∃ b, b = nameB n1 := ⟨_, rfl⟩
    have hfr := (fidx_at ts i.toNat (n1, c1, rs1) 0 q1).2
    rw [Int.zero_add] at hfr
    have hfr : fidx ts n1 = ↑i.toNat ↔ mlook ml0 n1 = none := by
      rw [show fidx ts n1 = fidxN ts n1 0 from rfl, hfr]
      constructor
      · intro q
        cases hm : mlook ml0 n1 with
        | none => rfl
        | some v =>
          obtain ⟨j, t, hj, ht, e⟩ := (h5 n1).1 ⟨v, hm⟩
          exact absurd e (q j t (by omega) ht)
      · intro q j t' hj ht e
        obtain ⟨v, hv⟩ := (h5 n1).2 ⟨j, t', by omega, ht, e⟩
        rw [q] at hv; cases hv
    rw [← hnb, hfr] at gi
    have h66 := ok69 n1
    rw [← hnb] at h66
    have e8 : (i + 1).toNat = i.toNat + 1 := by omega
    have hK2 : (g = true) → ∀ (w : Int) (ml : List (List UInt8 × E)), w = rows + x1.length → ml = mset ml0 n1 (E.int i) → ∀ s1, Weak (hpF []) s1 ⟨[(19, .int (i + 1)), (18, .int zz), (17, .e (.sl x)), (4, .int w), (3, .mp 1), (2, .bool false), (1, .ref 0 0)], [.box [.e (.sl x)], .smap ml]⟩ → K s1 := fun e w ml hww hml s1 hw => by
      refine hK s1 (m - 1) _ (by omega) hw ⟨i + 1, _, zz, ml, by omega, hzz, by omega, by omega, by rw [e8]; omega, fun j t hj ht => ?_, fun n => ?_, rfl⟩
      · by_cases hji : (j : Int) < i
        · exact h4 j t hji ht
        · have : j = i.toNat := by omega
          subst this
          rw [q1] at ht
          cases ht
          rw [← hg]; exact e
      · rw [hml, mlook_mset]
        by_cases hn : n1 = n
        · rw [if_pos hn]
          exact ⟨fun _ => ⟨i.toNat, _, by omega, q1, hn⟩, fun _ => ⟨_, rfl⟩⟩
        · rw [if_neg hn, h5 n]
          constructor
          · rintro ⟨j, t, a, b, c⟩; exact ⟨j, t, by omega, b, c⟩
          · rintro ⟨j, t, a, b, c⟩
            refine ⟨j, t, ?_, b, c⟩
            by_cases hji : (j : Int) < i
            · exact hji
            · have : j = i.toNat := by omega
              subst this
              rw [q1] at b
              cases b
              exact absurd c hn
    clear hK h4 h5 hnb hfr hg d1 d2 d3
    cbv
    repeat' first | with_reducible rfl | with_reducible refine And.intro ?_ ?_ | with_reducible intro _ | ((with_reducible show goC _ _ _ _ _ _ _ _); cbv) | ((with_reducible show goOps _ _ _ _ _); cbv) | ((with_reducible show okWr _ _ = _); rfl) | ((with_reducible refine callK_eq hA hP ?_ ?_ ?_ (Wks.refl _) (fun _ _ => h66)); exact rfl; exact rfl; cbv) | ((with_reducible refine hA.row x _ _ ⟨hin, fun row hrow => ?_⟩); rw [e1] at hrow; subst hrow; cbv) | ((with_reducible refine hA.fin_pl _ _ _ ?_); cbv) | ((with_reducible refine hA.len _ _ _ _ _ fun z hz hb => ?_); cbv) | ((with_reducible refine hA.slen _ _ _ _ _ fun z hz hb => ?_); cbv) | ((with_reducible refine hA.off _ _ _ _ fun b hb => ?_); cbv) | ((with_reducible refine hA.plus _ _ _ fun b hb => ?_); cbv) | ((with_reducible refine hA.rep _ _ _ fun ds m hds hm => ?_); cbv) | ((with_reducible refine hA.app _ _ _ _ _ ⟨?_, fun zs m hzs hm => ?_⟩); rotate_left; cbv) | ((with_reducible refine hA.app0 _ _ _ ⟨?_, fun m hm => ?_⟩); rotate_left; cbv) | ((with_reducible refine hA.slc _ _ _ _ _ ⟨?_, fun zs hzs => ?_⟩); rotate_left; cbv) | ((with_reducible refine hA.st _ _ _ _ _ ⟨?_, fun ds hds => ?_⟩); rotate_left; cbv) | ((with_reducible refine hA.alt _ _ (Or.inl ?_)); cbv) | ((with_reducible refine hA.appv _ _ _ _ _ _ ⟨?_, fun bb m ds hbb hm hds => ?_⟩); rotate_left; cbv) | ((with_reducible refine hA.vsl _ _ _ _ ⟨?_, fun m hm => ?_⟩); rotate_left; cbv) | ((with_reducible refine hA.six _ _ _ fun z6 c hz6 hc hc2 => ?_); cbv) | ((with_reducible refine hA.ssl _ _ _ _ ⟨?_, fun sl hsl => ?_⟩); rotate_left; cbv) | ((with_reducible refine hA.sapp _ _ _ ⟨?_, fun sl hsl => ?_⟩); rotate_left; cbv) | ((with_reducible refine hA.s2b _ _ fun es hes => ?_); cbv) | ((with_reducible refine hA.gb0 true _ ?_); cbv) | ((with_reducible refine hA.gb0 false _ ?_); cbv) | ((with_reducible refine hA.gb _ _ fun vb hvb => ?_); cbv) | ((with_reducible refine hA.mget _ _ _ _ ⟨fun mv hmv => ?_, fun hmv => ?_⟩) <;> cbv) | ((with_reducible refine hA.mset _ _ _ _ fun ml hml => ?_); cbv) | (simp only [hA.natLit, hA.natOf, hA.natCast]; cbv)
    all_goals try simp only [hA.add, hA.sub, hA.mul, hA.neg, hA.div, hA.mod, hA.mn, hA.mx, hA.eq, hA.lt, hA.le, hA.nat, hA.R, hA.lep, hA.ltp, hA.seq, inR, n_cast, Int.ofNat_eq_natCast, Option.getD_some, Option.getD_none] at *
    all_goals try (first
      | omega
      | (clear hK2 hd gi h66; simp at *; omega)
      | (clear hK2 hd gi h66; grind; done))
    all_goals try (
      have hf : g = false := (by
        rw [Bool.eq_false_iff]
        intro q
        obtain ⟨a1, a2, a3, _⟩ := gi.1 q
        clear hK2 hd gi h66
        first
          | (rw [a3] at hmv; cases hmv; done)
          | (grind; done)
          | (simp at *; done)
          | (simp at *; grind; done))
      rw [hd hf]
      done)
    have hpre : g = true ↔ ∀ r ∈ rs1, (r.length : Int) = c1 := by
      rw [gi]
      have : nb = true ∧ (1 ≤ c1 ∧ c1 ≤ 16) := by
        clear hK2 hd gi h66
        simp at *
        grind
      exact ⟨fun q => q.2.2.2, fun q => ⟨this.1, this.2, hmv, q⟩⟩
    clear gi h66
    refine hA.loopI (fun mm s => ∃ jj zj w : Int, 0 ≤ jj ∧ zj = x1.length ∧ mm + jj = zj ∧ w = rows + x1.length ∧ (∀ (k : Nat) r', (k : Int) < jj → rs1[k]? = some r' → (r'.length : Int) = c1) ∧
        s = ⟨[(60, .int jj), (59, .int zj), (58, .e (.sl x1)), (6, .ref 2 0), (19, .int i), (18, .int zz), (17, .e (.sl x)), (4, .int w), (3, .mp 1), (2, .bool false), (1, .ref 0 0)],
          [.box [.e (.sl x)], .smap ml, .box [.str n1, .int c1, .e (.sl x1)]]⟩) x1.length _
      (Weak.keep (env' := [(60, .int 0), (59, .int _), (58, .e (.sl x1)), (6, .ref 2 0), (19, .int i), (18, .int zz), (17, .e (.sl x)), (4, .int (rows + _)), (3, .mp 1), (2, .bool false), (1, .ref 0 0)]) ⟨rfl, rfl, rfl, rfl, rfl, rfl, rfl, rfl, rfl, rfl, rfl, trivial⟩)
      ⟨0, _, _, by omega, ?_, ?_, ?_, (fun k r' hk => by omega), rfl⟩ ?_
    · omega
    · omega
    · omega
    rintro mm s K3 ⟨jj, zj, w, j0, jz, j1, jw, j2, rfl⟩ hK3
    by_cases hjn : (0 : Int) ≤ jj ∧ jj < x1.length
    · obtain ⟨r1, e2, q2⟩ := row_at hx1 hjn
      obtain ⟨y1, hy1⟩ : ∃ y, y = r1.map vr := ⟨_, rfl⟩
      have e2 : x1.getD jj.toNat [] = [E.sl y1] := e2.trans (by rw [hy1])
      have hly : y1.length = r1.length := by rw [hy1]; simp
      have k1 : ¬ (r1.length : Int) = c1 → r = false := fun q => hd (by
        rw [Bool.eq_false_iff]
        intro q'
        exact q (hpre.1 q' r1 (List.mem_of_getElem? q2)))
      have k2 : (r1.length : Int) = c1 → ∀ s1, Weak (hpF []) s1 ⟨[(60, .int (jj + 1)), (59, .int zj), (58, .e (.sl x1)), (6, .ref 2 0), (19, .int i), (18, .int zz), (17, .e (.sl x)), (4, .int w), (3, .mp 1), (2, .bool false), (1, .ref 0 0)],
          [.box [.e (.sl x)], .smap ml, .box [.str n1, .int c1, .e (.sl x1)]]⟩ → K3 s1 := fun q s1 hw => by
        refine hK3 s1 (mm - 1) _ (by omega) hw ⟨jj + 1, zj, w, by omega, jz, by omega, jw, fun k r' hk hr' => ?_, rfl⟩
        by_cases hkj : (k : Int) < jj
        · exact j2 k r' hkj hr'
        · have : k = jj.toNat := by omega
          subst this
          rw [q2] at hr'
          cases hr'
          exact q
      clear hK3 hK2 hd hpre j2
      cbv
      repeat' first | with_reducible rfl | with_reducible refine And.intro ?_ ?_ | with_reducible intro _ | ((with_reducible show goC _ _ _ _ _ _ _ _); cbv) | ((with_reducible show goOps _ _ _ _ _); cbv) | ((with_reducible show okWr _ _ = _); rfl) | ((with_reducible refine hA.row x1 _ _ ⟨hjn, fun row hrow => ?_⟩); rw [e2] at hrow; subst hrow; cbv) | ((with_reducible refine hA.fin_pl _ _ _ ?_); cbv) | ((with_reducible refine hA.len _ _ _ _ _ fun z hz hb => ?_); cbv) | ((with_reducible refine hA.slen _ _ _ _ _ fun z hz hb => ?_); cbv) | ((with_reducible refine hA.off _ _ _ _ fun b hb => ?_); cbv) | ((with_reducible refine hA.plus _ _ _ fun b hb => ?_); cbv) | ((with_reducible refine hA.rep _ _ _ fun ds m hds hm => ?_); cbv) | ((with_reducible refine hA.app _ _ _ _ _ ⟨?_, fun zs m hzs hm => ?_⟩); rotate_left; cbv) | ((with_reducible refine hA.app0 _ _ _ ⟨?_, fun m hm => ?_⟩); rotate_left; cbv) | ((with_reducible refine hA.slc _ _ _ _ _ ⟨?_, fun zs hzs => ?_⟩); rotate_left; cbv) | ((with_reducible refine hA.st _ _ _ _ _ ⟨?_, fun ds hds => ?_⟩); rotate_left; cbv) | ((with_reducible refine hA.alt _ _ (Or.inl ?_)); cbv) | ((with_reducible refine hA.appv _ _ _ _ _ _ ⟨?_, fun bb m ds hbb hm hds => ?_⟩); rotate_left; cbv) | ((with_reducible refine hA.vsl _ _ _ _ ⟨?_, fun m hm => ?_⟩); rotate_left; cbv) | ((with_reducible refine hA.six _ _ _ fun z6 c hz6 hc hc2 => ?_); cbv) | ((with_reducible refine hA.ssl _ _ _ _ ⟨?_, fun sl hsl => ?_⟩); rotate_left; cbv) | ((with_reducible refine hA.sapp _ _ _ ⟨?_, fun sl hsl => ?_⟩); rotate_left; cbv) | ((with_reducible refine hA.s2b _ _ fun es hes => ?_); cbv) | ((with_reducible refine hA.gb0 true _ ?_); cbv) | ((with_reducible refine hA.gb0 false _ ?_); cbv) | ((with_reducible refine hA.gb _ _ fun vb hvb => ?_); cbv) | ((with_reducible refine hA.mget _ _ _ _ ⟨fun mv hmv => ?_, fun hmv => ?_⟩) <;> cbv) | ((with_reducible refine hA.mset _ _ _ _ fun ml hml => ?_); cbv) | (simp only [hA.natLit, hA.natOf, hA.natCast]; cbv)
      all_goals try simp only [hA.add, hA.sub, hA.mul, hA.neg, hA.div, hA.mod, hA.mn, hA.mx, hA.eq, hA.lt, hA.le, hA.nat, hA.R, hA.lep, hA.ltp, hA.seq, inR, n_cast, Int.ofNat_eq_natCast, Option.getD_some, Option.getD_none] at *
      all_goals first
        | omega
        | (rw [k1 (by clear k1 k2 hx hx1 e1 e2 hy1 hml hmv; grind)]; done)
        | (exact k2 (by clear k1 k2 hx hx1 e1 e2 hy1 hml hmv; grind) _ (Weak.keep ⟨rfl, rfl, rfl, rfl, rfl, rfl, rfl, rfl, rfl, rfl, rfl, trivial⟩))
        | (clear k1 k2 hml hmv; simp at *; omega)
        | (clear k1 k2 hml hmv; grind; done)
        | (trace_state; fail)
    · have hgt : g = true := hpre.2 fun r' hr' => by
        obtain ⟨k, hk, e⟩ := List.getElem_of_mem hr'
        exact j2 k r' (by omega) (by rw [← e]; simp [hk])
      have hK4 := hK2 hgt
      clear hK3 hK2 hd hpre j2
      cbv
      repeat' first | with_reducible rfl | with_reducible refine And.intro ?_ ?_ | with_reducible intro _ | ((with_reducible show goC _ _ _ _ _ _ _ _); cbv) | ((with_reducible show goOps _ _ _ _ _); cbv) | ((with_reducible show okWr _ _ = _); rfl) | (exfalso; simp only [hA.lt, hA.sub, decide_eq_true_eq, decide_eq_false_iff_not, n_cast] at *; omega) | ((with_reducible refine hA.fin_pl _ _ _ ?_); cbv) | ((with_reducible refine hA.len _ _ _ _ _ fun z hz hb => ?_); cbv) | ((with_reducible refine hA.slen _ _ _ _ _ fun z hz hb => ?_); cbv) | ((with_reducible refine hA.off _ _ _ _ fun b hb => ?_); cbv) | ((with_reducible refine hA.plus _ _ _ fun b hb => ?_); cbv) | ((with_reducible refine hA.rep _ _ _ fun ds m hds hm => ?_); cbv) | ((with_reducible refine hA.app _ _ _ _ _ ⟨?_, fun zs m hzs hm => ?_⟩); rotate_left; cbv) | ((with_reducible refine hA.app0 _ _ _ ⟨?_, fun m hm => ?_⟩); rotate_left; cbv) | ((with_reducible refine hA.slc _ _ _ _ _ ⟨?_, fun zs hzs => ?_⟩); rotate_left; cbv) | ((with_reducible refine hA.st _ _ _ _ _ ⟨?_, fun ds hds => ?_⟩); rotate_left; cbv) | ((with_reducible refine hA.alt _ _ (Or.inl ?_)); cbv) | ((with_reducible refine hA.appv _ _ _ _ _ _ ⟨?_, fun bb m ds hbb hm hds => ?_⟩); rotate_left; cbv) | ((with_reducible refine hA.vsl _ _ _ _ ⟨?_, fun m hm => ?_⟩); rotate_left; cbv) | ((with_reducible refine hA.six _ _ _ fun z6 c hz6 hc hc2 => ?_); cbv) | ((with_reducible refine hA.ssl _ _ _ _ ⟨?_, fun sl hsl => ?_⟩); rotate_left; cbv) | ((with_reducible refine hA.sapp _ _ _ ⟨?_, fun sl hsl => ?_⟩); rotate_left; cbv) | ((with_reducible refine hA.s2b _ _ fun es hes => ?_); cbv) | ((with_reducible refine hA.gb0 true _ ?_); cbv) | ((with_reducible refine hA.gb0 false _ ?_); cbv) | ((with_reducible refine hA.gb _ _ fun vb hvb => ?_); cbv) | ((with_reducible refine hA.mget _ _ _ _ ⟨fun mv hmv => ?_, fun hmv => ?_⟩) <;> cbv) | ((with_reducible refine hA.mset _ _ _ _ fun ml hml => ?_); cbv) | (simp only [hA.natLit, hA.natOf, hA.natCast]; cbv)
      all_goals try simp only [hA.add, hA.sub, hA.mul, hA.neg, hA.div, hA.mod, hA.mn, hA.mx, hA.eq, hA.lt, hA.le, hA.nat, hA.R, hA.lep, hA.ltp, hA.seq, inR, n_cast, Int.ofNat_eq_natCast, Option.getD_some, Option.getD_none] at *
      all_goals first
        | omega
        | (refine hK4 w ml jw hml _ (Weak.ren (l0 := []) [0, 1] (fun t => [(19, .int (i + 1)), (18, .int zz), (17, .e (.sl x)), (4, .int w), (3, .mp (t 1)), (2, .bool false), (1, .ref (t 0) 0)]) (fun t => [.box [.e (.sl x)], .smap ml]) rfl ⟨.inl rfl, .inl rfl, .inl rfl, .inl rfl, .inl rfl, .inl rfl, .inl rfl, trivial⟩ ⟨rfl, rfl, trivial⟩ ⟨fun t => rfl, rfl, fun t => rfl, by simp [O.lt, lts, D.lt]⟩))
        | (clear hK4 hml hmv; simp at *; omega)
        | (trace_state; fail)
  · have hd0 : ts.drop i.toNat = [] := by rw [List.drop_eq_nil_iff]; omega
    rw [hd0] at h3
    have h3 : rows + 0 = sumC rlen ts := h3
    have hr3 := d3 h50 fun j t ht => h4 j t (by have := (List.getElem?_eq_some_iff.1 ht).1; omega) ht
    clear hK h4 h5 d1 d2 d3
    cbv
    repeat' first | with_reducible rfl | with_reducible refine And.intro ?_ ?_ | with_reducible intro _ | ((with_reducible show goC _ _ _ _ _ _ _ _); cbv) | ((with_reducible show goOps _ _ _ _ _); cbv) | ((with_reducible show okWr _ _ = _); rfl) | (exfalso; simp only [hA.lt, hA.sub, decide_eq_true_eq, decide_eq_false_iff_not, n_cast] at *; omega) | ((with_reducible refine hA.fin_pl _ _ _ ?_); cbv) | ((with_reducible refine hA.len _ _ _ _ _ fun z hz hb => ?_); cbv) | ((with_reducible refine hA.slen _ _ _ _ _ fun z hz hb => ?_); cbv) | ((with_reducible refine hA.off _ _ _ _ fun b hb => ?_); cbv) | ((with_reducible refine hA.plus _ _ _ fun b hb => ?_); cbv) | ((with_reducible refine hA.rep _ _ _ fun ds m hds hm => ?_); cbv) | ((with_reducible refine hA.app _ _ _ _ _ ⟨?_, fun zs m hzs hm => ?_⟩); rotate_left; cbv) | ((with_reducible refine hA.app0 _ _ _ ⟨?_, fun m hm => ?_⟩); rotate_left; cbv) | ((with_reducible refine hA.slc _ _ _ _ _ ⟨?_, fun zs hzs => ?_⟩); rotate_left; cbv) | ((with_reducible refine hA.st _ _ _ _ _ ⟨?_, fun ds hds => ?_⟩); rotate_left; cbv) | ((with_reducible refine hA.alt _ _ (Or.inl ?_)); cbv) | ((with_reducible refine hA.appv _ _ _ _ _ _ ⟨?_, fun bb m ds hbb hm hds => ?_⟩); rotate_left; cbv) | ((with_reducible refine hA.vsl _ _ _ _ ⟨?_, fun m hm => ?_⟩); rotate_left; cbv) | ((with_reducible refine hA.six _ _ _ fun z6 c hz6 hc hc2 => ?_); cbv) | ((with_reducible refine hA.ssl _ _ _ _ ⟨?_, fun sl hsl => ?_⟩); rotate_left; cbv) | ((with_reducible refine hA.sapp _ _ _ ⟨?_, fun sl hsl => ?_⟩); rotate_left; cbv) | ((with_reducible refine hA.s2b _ _ fun es hes => ?_); cbv) | ((with_reducible refine hA.gb0 true _ ?_); cbv) | ((with_reducible refine hA.gb0 false _ ?_); cbv) | ((with_reducible refine hA.gb _ _ fun vb hvb => ?_); cbv) | ((with_reducible refine hA.mget _ _ _ _ ⟨fun mv hmv => ?_, fun hmv => ?_⟩) <;> cbv) | ((with_reducible refine hA.mset _ _ _ _ fun ml hml => ?_); cbv) | (simp only [hA.natLit, hA.natOf, hA.natCast]; cbv)
    all_goals try simp only [hA.add, hA.sub, hA.mul, hA.neg, hA.div, hA.mod, hA.mn, hA.mx, hA.eq, hA.lt, hA.le, hA.nat, hA.R, hA.lep, hA.ltp, hA.seq, inR, n_cast, Int.ofNat_eq_natCast, Option.getD_some, Option.getD_none] at *
    all_goals first
      | (rw [hr3, ← h3, Int.add_zero]; done)
      | omega
      | (trace_state; fail))
end Go.Proofs.Ytmnhoglkahmlaaa.Ab
