/- Tables: valid, by the specification. -/
import Derived.Test.YtmnhoglkahmlaaaX4
set_option linter.unusedSimpArgs false
set_option linter.unusedVariables false
set_option linter.unnecessarySimpa false
set_option linter.constructorNameAsVariable false
namespace Go.Proofs.Ytmnhoglkahmlaaa.Ab
open Go
def fidxN : List Tb → List UInt8 → Int → Int
  | [], _, _ => -1
  | t :: r, n, k => if t.1 = n then k else fidxN r n (k + 1)
def fidx (ts : List Tb) (n : List UInt8) : Int := fidxN ts n 0
theorem fidx_at : ∀ (l : List Tb) (m : Nat) (t : Tb) (k : Int), l[m]? = some t → k ≤ fidxN l t.1 k ∧ (fidxN l t.1 k = k + m ↔ ∀ j t', j < m → l[j]? = some t' → t'.1 ≠ t.1)
  | [], m, t, k, h => by simp at h
  | a :: l, 0, t, k, h => by
    simp at h; subst h
    simp [fidxN]
  | a :: l, m + 1, t, k, h => by
    obtain ⟨h1, h2⟩ := fidx_at l m t (k + 1) (by simpa using h)
    by_cases e : a.1 = t.1
    · have e2 : fidxN (a :: l) t.1 k = k := if_pos e
      rw [e2]
      refine ⟨Int.le_refl _, ⟨fun q => by omega, fun q => absurd e (q 0 a (by omega) rfl)⟩⟩
    · have e2 : fidxN (a :: l) t.1 k = fidxN l t.1 (k + 1) := if_neg e
      rw [e2]
      refine ⟨by omega, ?_⟩
      rw [show k + ((m + 1 : Nat) : Int) = k + 1 + m by omega, h2]
      constructor
      · intro q j t' hj ht
        cases j with
        | zero => simp at ht; subst ht; exact e
        | succ j => exact q j t' (by omega) (by simpa using ht)
      · intro q j t' hj ht
        exact q (j + 1) t' (by omega) (by simpa using ht)
def good (ts : List Tb) (i : Nat) (t : Tb) : Bool := nameB t.1 && (decide (1 ≤ t.2.1 ∧ t.2.1 ≤ 16) && (decide (fidx ts t.1 = i) && t.2.2.all fun r => decide ((r.length : Int) = t.2.1)))
def rlen (t : Tb) : Int := t.2.2.length
theorem rlen_nonneg (t : Tb) : 0 ≤ rlen t := by unfold rlen; omega
def dbOk (ts : List Tb) : Bool := decide (ts.length ≤ 50) && (((List.range ts.length).all fun i => good ts i (ts.getD i ([], 0, []))) && decide (sumC rlen ts ≤ 1000))
theorem dbF (ts : List Tb) : (50 < ts.length → dbOk ts = false) ∧ (∀ i t, ts[i]? = some t → good ts i t = false → dbOk ts = false) ∧
    (ts.length ≤ 50 → (∀ i t, ts[i]? = some t → good ts i t = true) → dbOk ts = decide (sumC rlen ts ≤ 1000)) := by
  refine ⟨fun h => by simp [dbOk, show ¬ ts.length ≤ 50 by omega], fun i t h e => ?_, fun h q => ?_⟩
  · have hi := (List.getElem?_eq_some_iff.1 h).1
    have : ((List.range ts.length).all fun i => good ts i (ts.getD i ([], 0, []))) = false := by
      rw [List.all_eq_false]
      exact ⟨i, by simp [hi], by simp [List.getD, h, e]⟩
    rw [dbOk, this]; simp
  · have : ((List.range ts.length).all fun i => good ts i (ts.getD i ([], 0, []))) = true := by
      rw [List.all_eq_true]
      intro i hi
      simp at hi
      exact q i _ (by simp [List.getD, hi])
    rw [dbOk, this, decide_eq_true h]; simp
theorem sz_rows (ts : List Tb) : sumC rlen ts ≤ cTS ts := by
  have : ∀ l : List Tb, sumC rlen l ≤ sumC cT l := fun l => by
    induction l with
    | nil => exact Int.le_refl _
    | cons t l ih =>
      simp only [sumC]
      have := sumC_nonneg cV_nonneg t.2.2
      have : rlen t ≤ cT t := by unfold rlen cT cSS; omega
      omega
  have := this ts
  unfold cTS; omega
theorem sz_row {ts : List Tb} {t : Tb} (h : t ∈ ts) : cT t ≤ cTS ts := by have := sumC_mem cT_nonneg h; unfold cTS; omega
set_option maxRecDepth 100000 in
theorem ok67 (ts : List Tb) (x : List (List E)) (hx : x = ts.map tbr) (n : List UInt8) : Plain Try.prog 67 [.agg [.e (.sl x)], .str n] (.int (fidx ts n)) := okOf mixed p67 fun A P hA hP => (by
  have hl : x.length = ts.length := by rw [hx]; simp
  obtain ⟨r, hr⟩ : ∃ r, r = fidx ts n := ⟨_, rfl⟩
  rw [← hr]
  cbv
  repeat' first | with_reducible rfl | with_reducible refine And.intro ?_ ?_ | with_reducible intro _ | ((with_reducible show goC _ _ _ _ _ _ _ _); cbv) | ((with_reducible show goOps _ _ _ _ _); cbv) | ((with_reducible show okWr _ _ = _); rfl) | ((with_reducible refine hA.fin_pl _ _ _ ?_); cbv) | ((with_reducible refine hA.len _ _ _ _ _ fun z hz hb => ?_); cbv) | ((with_reducible refine hA.slen _ _ _ _ _ fun z hz hb => ?_); cbv) | ((with_reducible refine hA.off _ _ _ _ fun b hb => ?_); cbv) | ((with_reducible refine hA.plus _ _ _ fun b hb => ?_); cbv) | ((with_reducible refine hA.rep _ _ _ fun ds m hds hm => ?_); cbv) | ((with_reducible refine hA.app _ _ _ _ _ ⟨?_, fun zs m hzs hm => ?_⟩); rotate_left; cbv) | ((with_reducible refine hA.app0 _ _ _ ⟨?_, fun m hm => ?_⟩); rotate_left; cbv) | ((with_reducible refine hA.slc _ _ _ _ _ ⟨?_, fun zs hzs => ?_⟩); rotate_left; cbv) | ((with_reducible refine hA.st _ _ _ _ _ ⟨?_, fun ds hds => ?_⟩); rotate_left; cbv) | ((with_reducible refine hA.alt _ _ (Or.inl ?_)); cbv) | ((with_reducible refine hA.appv _ _ _ _ _ _ ⟨?_, fun bb m ds hbb hm hds => ?_⟩); rotate_left; cbv) | ((with_reducible refine hA.vsl _ _ _ _ ⟨?_, fun m hm => ?_⟩); rotate_left; cbv) | ((with_reducible refine hA.six _ _ _ fun z6 c hz6 hc hc2 => ?_); cbv) | ((with_reducible refine hA.ssl _ _ _ _ ⟨?_, fun sl hsl => ?_⟩); rotate_left; cbv) | ((with_reducible refine hA.sapp _ _ _ ⟨?_, fun sl hsl => ?_⟩); rotate_left; cbv) | ((with_reducible refine hA.s2b _ _ fun es hes => ?_); cbv) | ((with_reducible refine hA.gb0 true _ ?_); cbv) | ((with_reducible refine hA.gb0 false _ ?_); cbv) | ((with_reducible refine hA.gb _ _ fun vb hvb => ?_); cbv) | ((with_reducible refine hA.mget _ _ _ _ ⟨fun mv hmv => ?_, fun hmv => ?_⟩) <;> cbv) | ((with_reducible refine hA.mset _ _ _ _ fun ml hml => ?_); cbv) | (simp only [hA.natLit, hA.natOf, hA.natCast]; cbv)
  all_goals try simp only [hA.add, hA.sub, hA.mul, hA.neg, hA.div, hA.mod, hA.mn, hA.mx, hA.eq, hA.lt, hA.le, hA.nat, hA.R, hA.lep, hA.ltp, hA.seq, inR, n_cast, Int.ofNat_eq_natCast, Option.getD_some, Option.getD_none] at *
  refine hA.loopI (fun m s => ∃ i : Int, 0 ≤ i ∧ m + i = x.length ∧ r = fidxN (ts.drop i.toNat) n i ∧ s = ⟨[(5, .int i), (1, .str n), (2, .ref 0 0), (4, .int 0)], [.box [.e (.sl x)]]⟩) x.length _
    (Weak.keep (env' := [(5, .int 0), (1, .str n), (2, .ref 0 0), (4, .int 0)]) ⟨rfl, rfl, rfl, rfl, trivial⟩) ⟨0, by omega, by omega, by simpa [fidx] using hr, rfl⟩ ?_
  rintro m s K ⟨i, h0, h1, h2, rfl⟩ hK
  by_cases hin : (0 : Int) ≤ i ∧ i < x.length
  · obtain ⟨⟨n1, c1, rs1⟩, e1, q1⟩ := row_at hx hin
    obtain ⟨x1, hx1⟩ : ∃ y, y = rs1.map rsr := ⟨_, rfl⟩
    have e1 : x.getD i.toNat [] = [E.str n1, E.int c1, E.sl x1] := e1.trans (by rw [hx1])
    have h3 : r = if n1 = n then i else fidxN (ts.drop (i.toNat + 1)) n (i + 1) := by
      obtain ⟨a, b⟩ := List.getElem?_eq_some_iff.1 q1
      rw [h2, List.drop_eq_getElem_cons a, b]; rfl
    have e8 : (i + 1).toNat = i.toNat + 1 := by omega
    clear h2 hr
    cbv
    repeat' first | with_reducible rfl | with_reducible refine And.intro ?_ ?_ | with_reducible intro _ | ((with_reducible show goC _ _ _ _ _ _ _ _); cbv) | ((with_reducible show goOps _ _ _ _ _); cbv) | ((with_reducible show okWr _ _ = _); rfl) | ((with_reducible refine hA.row x _ _ ⟨hin, fun row hrow => ?_⟩); rw [e1] at hrow; subst hrow; cbv) | ((with_reducible refine hA.fin_pl _ _ _ ?_); cbv) | ((with_reducible refine hA.len _ _ _ _ _ fun z hz hb => ?_); cbv) | ((with_reducible refine hA.slen _ _ _ _ _ fun z hz hb => ?_); cbv) | ((with_reducible refine hA.off _ _ _ _ fun b hb => ?_); cbv) | ((with_reducible refine hA.plus _ _ _ fun b hb => ?_); cbv) | ((with_reducible refine hA.rep _ _ _ fun ds m hds hm => ?_); cbv) | ((with_reducible refine hA.app _ _ _ _ _ ⟨?_, fun zs m hzs hm => ?_⟩); rotate_left; cbv) | ((with_reducible refine hA.app0 _ _ _ ⟨?_, fun m hm => ?_⟩); rotate_left; cbv) | ((with_reducible refine hA.slc _ _ _ _ _ ⟨?_, fun zs hzs => ?_⟩); rotate_left; cbv) | ((with_reducible refine hA.st _ _ _ _ _ ⟨?_, fun ds hds => ?_⟩); rotate_left; cbv) | ((with_reducible refine hA.alt _ _ (Or.inl ?_)); cbv) | ((with_reducible refine hA.appv _ _ _ _ _ _ ⟨?_, fun bb m ds hbb hm hds => ?_⟩); rotate_left; cbv) | ((with_reducible refine hA.vsl _ _ _ _ ⟨?_, fun m hm => ?_⟩); rotate_left; cbv) | ((with_reducible refine hA.six _ _ _ fun z6 c hz6 hc hc2 => ?_); cbv) | ((with_reducible refine hA.ssl _ _ _ _ ⟨?_, fun sl hsl => ?_⟩); rotate_left; cbv) | ((with_reducible refine hA.sapp _ _ _ ⟨?_, fun sl hsl => ?_⟩); rotate_left; cbv) | ((with_reducible refine hA.s2b _ _ fun es hes => ?_); cbv) | ((with_reducible refine hA.gb0 true _ ?_); cbv) | ((with_reducible refine hA.gb0 false _ ?_); cbv) | ((with_reducible refine hA.gb _ _ fun vb hvb => ?_); cbv) | ((with_reducible refine hA.mget _ _ _ _ ⟨fun mv hmv => ?_, fun hmv => ?_⟩) <;> cbv) | ((with_reducible refine hA.mset _ _ _ _ fun ml hml => ?_); cbv) | (simp only [hA.natLit, hA.natOf, hA.natCast]; cbv)
    all_goals try simp only [hA.add, hA.sub, hA.mul, hA.neg, hA.div, hA.mod, hA.mn, hA.mx, hA.eq, hA.lt, hA.le, hA.nat, hA.R, hA.lep, hA.ltp, hA.seq, inR, n_cast, Int.ofNat_eq_natCast, Option.getD_some, Option.getD_none] at *
    all_goals first
      | omega
      | (rw [h3, if_pos (by simpa using (by assumption : decide (n1 = n) = true))]; done)
      | (refine hK _ (m - 1) _ (by omega) (Weak.keep (env' := [(5, .int (i + 1)), (1, .str n), (2, .ref 0 0), (4, .int 0)]) ⟨rfl, rfl, rfl, rfl, trivial⟩) ⟨i + 1, by omega, by omega, ?_, rfl⟩
         rw [h3, if_neg (by simpa using (by assumption : decide (n1 = n) = false)), e8])
      | (clear hK h3; simp at *; omega)
      | (trace_state; fail)
  · have hd : ts.drop i.toNat = [] := by rw [List.drop_eq_nil_iff]; omega
    rw [hd] at h2
    have h3 : r = -1 := h2
    clear hK h2 hr
    cbv
    repeat' first | with_reducible rfl | with_reducible refine And.intro ?_ ?_ | with_reducible intro _ | ((with_reducible show goC _ _ _ _ _ _ _ _); cbv) | ((with_reducible show goOps _ _ _ _ _); cbv) | ((with_reducible show okWr _ _ = _); rfl) | (exfalso; simp only [hA.lt, hA.sub, decide_eq_true_eq, decide_eq_false_iff_not, n_cast] at *; omega) | ((with_reducible refine hA.fin_pl _ _ _ ?_); cbv) | ((with_reducible refine hA.len _ _ _ _ _ fun z hz hb => ?_); cbv) | ((with_reducible refine hA.slen _ _ _ _ _ fun z hz hb => ?_); cbv) | ((with_reducible refine hA.off _ _ _ _ fun b hb => ?_); cbv) | ((with_reducible refine hA.plus _ _ _ fun b hb => ?_); cbv) | ((with_reducible refine hA.rep _ _ _ fun ds m hds hm => ?_); cbv) | ((with_reducible refine hA.app _ _ _ _ _ ⟨?_, fun zs m hzs hm => ?_⟩); rotate_left; cbv) | ((with_reducible refine hA.app0 _ _ _ ⟨?_, fun m hm => ?_⟩); rotate_left; cbv) | ((with_reducible refine hA.slc _ _ _ _ _ ⟨?_, fun zs hzs => ?_⟩); rotate_left; cbv) | ((with_reducible refine hA.st _ _ _ _ _ ⟨?_, fun ds hds => ?_⟩); rotate_left; cbv) | ((with_reducible refine hA.alt _ _ (Or.inl ?_)); cbv) | ((with_reducible refine hA.appv _ _ _ _ _ _ ⟨?_, fun bb m ds hbb hm hds => ?_⟩); rotate_left; cbv) | ((with_reducible refine hA.vsl _ _ _ _ ⟨?_, fun m hm => ?_⟩); rotate_left; cbv) | ((with_reducible refine hA.six _ _ _ fun z6 c hz6 hc hc2 => ?_); cbv) | ((with_reducible refine hA.ssl _ _ _ _ ⟨?_, fun sl hsl => ?_⟩); rotate_left; cbv) | ((with_reducible refine hA.sapp _ _ _ ⟨?_, fun sl hsl => ?_⟩); rotate_left; cbv) | ((with_reducible refine hA.s2b _ _ fun es hes => ?_); cbv) | ((with_reducible refine hA.gb0 true _ ?_); cbv) | ((with_reducible refine hA.gb0 false _ ?_); cbv) | ((with_reducible refine hA.gb _ _ fun vb hvb => ?_); cbv) | ((with_reducible refine hA.mget _ _ _ _ ⟨fun mv hmv => ?_, fun hmv => ?_⟩) <;> cbv) | ((with_reducible refine hA.mset _ _ _ _ fun ml hml => ?_); cbv) | (simp only [hA.natLit, hA.natOf, hA.natCast]; cbv)
    all_goals try simp only [hA.add, hA.sub, hA.mul, hA.neg, hA.div, hA.mod, hA.mn, hA.mx, hA.eq, hA.lt, hA.le, hA.nat, hA.R, hA.lep, hA.ltp, hA.seq, inR, n_cast, Int.ofNat_eq_natCast, Option.getD_some, Option.getD_none] at *
    all_goals first
      | (rw [h3]; done)
      | omega
      | (trace_state; fail))
theorem good_iff {ts : List Tb} {i : Nat} {n : List UInt8} {c : Int} {rs : List (List (Bool × Int))} : good ts i (n, c, rs) = true ↔ nameB n = true ∧ (1 ≤ c ∧ c ≤ 16) ∧ fidx ts n = i ∧ ∀ r ∈ rs, (r.length : Int) = c := by
  simp [good]
set_option maxRecDepth 100000 in
set_option maxHeartbeats 2000000 in
theorem ok36 (ts : List Tb) (x : List (List E)) (hx : x = ts.map tbr) (hsz : cTS ts ≤ 1048576) : Plain Try.prog 36 [.agg [.e (.sl x)]] (.bool (dbOk ts)) := okOf mixed p36 fun A P hA hP => (by
  have hl : x.length = ts.length := by rw [hx]; simp
  obtain ⟨d1, d2, d3⟩ := dbF ts
  obtain ⟨r, hr⟩ : ∃ r, r = dbOk ts := ⟨_, rfl⟩
  rw [← hr] at d1 d2 d3 ⊢
  clear hr
  cbv
  repeat' first | with_reducible rfl | with_reducible refine And.intro ?_ ?_ | with_reducible intro _ | ((with_reducible show goC _ _ _ _ _ _ _ _); cbv) | ((with_reducible show goOps _ _ _ _ _); cbv) | ((with_reducible show okWr _ _ = _); rfl) | ((with_reducible refine hA.fin_pl _ _ _ ?_); cbv) | ((with_reducible refine hA.len _ _ _ _ _ fun z hz hb => ?_); cbv) | ((with_reducible refine hA.slen _ _ _ _ _ fun z hz hb => ?_); cbv) | ((with_reducible refine hA.off _ _ _ _ fun b hb => ?_); cbv) | ((with_reducible refine hA.plus _ _ _ fun b hb => ?_); cbv) | ((with_reducible refine hA.rep _ _ _ fun ds m hds hm => ?_); cbv) | ((with_reducible refine hA.app _ _ _ _ _ ⟨?_, fun zs m hzs hm => ?_⟩); rotate_left; cbv) | ((with_reducible refine hA.app0 _ _ _ ⟨?_, fun m hm => ?_⟩); rotate_left; cbv) | ((with_reducible refine hA.slc _ _ _ _ _ ⟨?_, fun zs hzs => ?_⟩); rotate_left; cbv) | ((with_reducible refine hA.st _ _ _ _ _ ⟨?_, fun ds hds => ?_⟩); rotate_left; cbv) | ((with_reducible refine hA.alt _ _ (Or.inl ?_)); cbv) | ((with_reducible refine hA.appv _ _ _ _ _ _ ⟨?_, fun bb m ds hbb hm hds => ?_⟩); rotate_left; cbv) | ((with_reducible refine hA.vsl _ _ _ _ ⟨?_, fun m hm => ?_⟩); rotate_left; cbv) | ((with_reducible refine hA.six _ _ _ fun z6 c hz6 hc hc2 => ?_); cbv) | ((with_reducible refine hA.ssl _ _ _ _ ⟨?_, fun sl hsl => ?_⟩); rotate_left; cbv) | ((with_reducible refine hA.sapp _ _ _ ⟨?_, fun sl hsl => ?_⟩); rotate_left; cbv) | ((with_reducible refine hA.s2b _ _ fun es hes => ?_); cbv) | ((with_reducible refine hA.gb0 true _ ?_); cbv) | ((with_reducible refine hA.gb0 false _ ?_); cbv) | ((with_reducible refine hA.gb _ _ fun vb hvb => ?_); cbv) | ((with_reducible refine hA.mget _ _ _ _ ⟨fun mv hmv => ?_, fun hmv => ?_⟩) <;> cbv) | ((with_reducible refine hA.mset _ _ _ _ fun ml hml => ?_); cbv) | (simp only [hA.natLit, hA.natOf, hA.natCast]; cbv)
  all_goals try simp only [hA.add, hA.sub, hA.mul, hA.neg, hA.div, hA.mod, hA.mn, hA.mx, hA.eq, hA.lt, hA.le, hA.nat, hA.R, hA.lep, hA.ltp, hA.seq, inR, n_cast, Int.ofNat_eq_natCast, Option.getD_some, Option.getD_none] at *
  all_goals try (first | (rw [d1 (by simp at *; omega)]; done))
  have h50 : ts.length ≤ 50 := by clear d1 d2 d3; simp at *; omega
  have hrn := sz_rows ts
  refine hA.loopI (fun m s => ∃ i rows : Int, 0 ≤ i ∧ m + i = x.length ∧ 0 ≤ rows ∧ rows + sumC rlen (ts.drop i.toNat) = sumC rlen ts ∧ (∀ (j : Nat) t, (j : Int) < i → ts[j]? = some t → good ts j t = true) ∧
      s = ⟨[(4, .int i), (3, .int rows), (2, .bool false), (1, .ref 0 0)], [.box [.e (.sl x)]]⟩) x.length _
    (Weak.keep (env' := [(4, .int 0), (3, .int 0), (2, .bool false), (1, .ref 0 0)]) ⟨rfl, rfl, rfl, rfl, trivial⟩) ⟨0, 0, by omega, by omega, by omega, by simp, fun j t hj => by omega, rfl⟩ ?_
  rintro m s K ⟨i, rows, h0, h1, h2, h3, h4, rfl⟩ hK
  by_cases hin : (0 : Int) ≤ i ∧ i < x.length
  · obtain ⟨⟨n1, c1, rs1⟩, e1, q1⟩ := row_at hx hin
    obtain ⟨x1, hx1⟩ : ∃ y, y = rs1.map rsr := ⟨_, rfl⟩
    have e1 : x.getD i.toNat [] = [E.str n1, E.int c1, E.sl x1] := e1.trans (by rw [hx1])
    have hl1 : x1.length = rs1.length := by rw [hx1]; simp
    rw [sumC_drop q1] at h3
    have hS := sumC_nonneg rlen_nonneg (ts.drop (i.toNat + 1))
    have hrl : rlen (n1, c1, rs1) = x1.length := by rw [hl1]; rfl
    have hd := d2 i.toNat _ q1
    have gi := good_iff (ts := ts) (i := i.toNat) (n := n1) (c := c1) (rs := rs1)
    obtain ⟨g, hg⟩ : ∃ g, g = good ts i.toNat (n1, c1, rs1) := ⟨_, rfl⟩
    rw [← hg] at hd gi
    obtain ⟨nb, hnb⟩ : ∃ b, b = nameB n1 := ⟨_, rfl⟩
    obtain ⟨fi, hfi⟩ : ∃ f, f = fidx ts n1 := ⟨_, rfl⟩
    rw [← hnb, ← hfi] at gi
    have h66 := ok66 n1
    have h67 := ok67 ts x hx n1
    rw [← hnb] at h66
    rw [← hfi] at h67
    have e8 : (i + 1).toNat = i.toNat + 1 := by omega
    have hK2 : (g = true) → ∀ w : Int, w = rows + x1.length → ∀ s1, Weak (hpF []) s1 ⟨[(4, .int (i + 1)), (3, .int w), (2, .bool false), (1, .ref 0 0)], [.box [.e (.sl x)]]⟩ → K s1 := fun e w hww s1 hw => by
      refine hK s1 (m - 1) _ (by omega) hw ⟨i + 1, _, by omega, by omega, by omega, by rw [e8]; omega, fun j t hj ht => ?_, rfl⟩
      by_cases hji : (j : Int) < i
      · exact h4 j t hji ht
      · have : j = i.toNat := by omega
        subst this
        rw [q1] at ht
        cases ht
        rw [← hg]; exact e
    clear hK h4 hnb hfi hg d1 d2 d3
    cbv
    repeat' first | with_reducible rfl | with_reducible refine And.intro ?_ ?_ | with_reducible intro _ | ((with_reducible show goC _ _ _ _ _ _ _ _); cbv) | ((with_reducible show goOps _ _ _ _ _); cbv) | ((with_reducible show okWr _ _ = _); rfl) | ((with_reducible refine callK_eq hA hP ?_ ?_ ?_ (Wks.refl _) (fun _ _ => h66)); exact rfl; exact rfl; cbv) | ((with_reducible refine callK_eq hA hP ?_ ?_ ?_ (Wks.refl _) (fun _ _ => h67)); exact rfl; exact rfl; cbv) | ((with_reducible refine hA.row x _ _ ⟨hin, fun row hrow => ?_⟩); rw [e1] at hrow; subst hrow; cbv) | ((with_reducible refine hA.fin_pl _ _ _ ?_); cbv) | ((with_reducible refine hA.len _ _ _ _ _ fun z hz hb => ?_); cbv) | ((with_reducible refine hA.slen _ _ _ _ _ fun z hz hb => ?_); cbv) | ((with_reducible refine hA.off _ _ _ _ fun b hb => ?_); cbv) | ((with_reducible refine hA.plus _ _ _ fun b hb => ?_); cbv) | ((with_reducible refine hA.rep _ _ _ fun ds m hds hm => ?_); cbv) | ((with_reducible refine hA.app _ _ _ _ _ ⟨?_, fun zs m hzs hm => ?_⟩); rotate_left; cbv) | ((with_reducible refine hA.app0 _ _ _ ⟨?_, fun m hm => ?_⟩); rotate_left; cbv) | ((with_reducible refine hA.slc _ _ _ _ _ ⟨?_, fun zs hzs => ?_⟩); rotate_left; cbv) | ((with_reducible refine hA.st _ _ _ _ _ ⟨?_, fun ds hds => ?_⟩); rotate_left; cbv) | ((with_reducible refine hA.alt _ _ (Or.inl ?_)); cbv) | ((with_reducible refine hA.appv _ _ _ _ _ _ ⟨?_, fun bb m ds hbb hm hds => ?_⟩); rotate_left; cbv) | ((with_reducible refine hA.vsl _ _ _ _ ⟨?_, fun m hm => ?_⟩); rotate_left; cbv) | ((with_reducible refine hA.six _ _ _ fun z6 c hz6 hc hc2 => ?_); cbv) | ((with_reducible refine hA.ssl _ _ _ _ ⟨?_, fun sl hsl => ?_⟩); rotate_left; cbv) | ((with_reducible refine hA.sapp _ _ _ ⟨?_, fun sl hsl => ?_⟩); rotate_left; cbv) | ((with_reducible refine hA.s2b _ _ fun es hes => ?_); cbv) | ((with_reducible refine hA.gb0 true _ ?_); cbv) | ((with_reducible refine hA.gb0 false _ ?_); cbv) | ((with_reducible refine hA.gb _ _ fun vb hvb => ?_); cbv) | ((with_reducible refine hA.mget _ _ _ _ ⟨fun mv hmv => ?_, fun hmv => ?_⟩) <;> cbv) | ((with_reducible refine hA.mset _ _ _ _ fun ml hml => ?_); cbv) | (simp only [hA.natLit, hA.natOf, hA.natCast]; cbv)
    all_goals try simp only [hA.add, hA.sub, hA.mul, hA.neg, hA.div, hA.mod, hA.mn, hA.mx, hA.eq, hA.lt, hA.le, hA.nat, hA.R, hA.lep, hA.ltp, hA.seq, inR, n_cast, Int.ofNat_eq_natCast, Option.getD_some, Option.getD_none] at *
    all_goals try (first
      | omega
      | (clear hK2 hd gi h66 h67; simp at *; omega)
      | (clear hK2 hd gi h66 h67; grind; done))
    · have hf : g = false := by
        rw [Bool.eq_false_iff]
        intro q
        obtain ⟨a1, a2, a3, _⟩ := gi.1 q
        clear hK2 hd gi h66 h67
        simp at *
        grind
      rw [hd hf]
    · have hpre : g = true ↔ ∀ r ∈ rs1, (r.length : Int) = c1 := by
        rw [gi]
        have : nb = true ∧ (1 ≤ c1 ∧ c1 ≤ 16) ∧ fi = ↑i.toNat := by
          clear hK2 hd gi h66 h67
          simp at *
          grind
        exact ⟨fun q => q.2.2.2, fun q => ⟨this.1, this.2.1, this.2.2, q⟩⟩
      clear gi h66 h67
      refine hA.loopI (fun mm s => ∃ jj : Int, 0 ≤ jj ∧ mm + jj = x1.length ∧ (∀ (k : Nat) r', (k : Int) < jj → rs1[k]? = some r' → (r'.length : Int) = c1) ∧
          s = ⟨[(6, .int jj), (5, .ref 1 0), (4, .int i), (3, .int rows), (2, .bool false), (1, .ref 0 0)], [.box [.e (.sl x)], .box [.str n1, .int c1, .e (.sl x1)]]⟩) x1.length _
        (Weak.keep (env' := [(6, .int 0), (5, .ref 1 0), (4, .int i), (3, .int rows), (2, .bool false), (1, .ref 0 0)]) ⟨rfl, rfl, rfl, rfl, rfl, rfl, trivial⟩) ⟨0, by omega, by omega, fun k r' hk => by omega, rfl⟩ ?_
      rintro mm s K3 ⟨jj, j0, j1, j2, rfl⟩ hK3
      by_cases hjn : (0 : Int) ≤ jj ∧ jj < x1.length
      · obtain ⟨r1, e2, q2⟩ := row_at hx1 hjn
        obtain ⟨y1, hy1⟩ : ∃ y, y = r1.map vr := ⟨_, rfl⟩
        have e2 : x1.getD jj.toNat [] = [E.sl y1] := e2.trans (by rw [hy1])
        have hly : y1.length = r1.length := by rw [hy1]; simp
        have k1 : ¬ (r1.length : Int) = c1 → r = false := fun q => hd (by
          rw [Bool.eq_false_iff]
          intro q'
          exact q (hpre.1 q' r1 (List.mem_of_getElem? q2)))
        have k2 : (r1.length : Int) = c1 → ∀ s1, Weak (hpF []) s1 ⟨[(6, .int (jj + 1)), (5, .ref 1 0), (4, .int i), (3, .int rows), (2, .bool false), (1, .ref 0 0)], [.box [.e (.sl x)], .box [.str n1, .int c1, .e (.sl x1)]]⟩ → K3 s1 := fun q s1 hw => by
          refine hK3 s1 (mm - 1) _ (by omega) hw ⟨jj + 1, by omega, by omega, fun k r' hk hr' => ?_, rfl⟩
          by_cases hkj : (k : Int) < jj
          · exact j2 k r' hkj hr'
          · have : k = jj.toNat := by omega
            subst this
            rw [q2] at hr'
            cases hr'
            exact q
        clear hK3 hK2 hd hpre j2
        cbv
        repeat' first | with_reducible rfl | with_reducible refine And.intro ?_ ?_ | with_reducible intro _ | ((with_reducible show goC _ _ _ _ _ _ _ _); cbv) | ((with_reducible show goOps _ _ _ _ _); cbv) | ((with_reducible show okWr _ _ = _); rfl) | ((with_reducible refine hA.row x1 _ _ ⟨hjn, fun row hrow => ?_⟩); rw [e2] at hrow; subst hrow; cbv) | ((with_reducible refine hA.fin_pl _ _ _ ?_); cbv) | ((with_reducible refine hA.len _ _ _ _ _ fun z hz hb => ?_); cbv) | ((with_reducible refine hA.slen _ _ _ _ _ fun z hz hb => ?_); cbv) | ((with_reducible refine hA.off _ _ _ _ fun b hb => ?_); cbv) | ((with_reducible refine hA.plus _ _ _ fun b hb => ?_); cbv) | ((with_reducible refine hA.rep _ _ _ fun ds m hds hm => ?_); cbv) | ((with_reducible refine hA.app _ _ _ _ _ ⟨?_, fun zs m hzs hm => ?_⟩); rotate_left; cbv) | ((with_reducible refine hA.app0 _ _ _ ⟨?_, fun m hm => ?_⟩); rotate_left; cbv) | ((with_reducible refine hA.slc _ _ _ _ _ ⟨?_, fun zs hzs => ?_⟩); rotate_left; cbv) | ((with_reducible refine hA.st _ _ _ _ _ ⟨?_, fun ds hds => ?_⟩); rotate_left; cbv) | ((with_reducible refine hA.alt _ _ (Or.inl ?_)); cbv) | ((with_reducible refine hA.appv _ _ _ _ _ _ ⟨?_, fun bb m ds hbb hm hds => ?_⟩); rotate_left; cbv) | ((with_reducible refine hA.vsl _ _ _ _ ⟨?_, fun m hm => ?_⟩); rotate_left; cbv) | ((with_reducible refine hA.six _ _ _ fun z6 c hz6 hc hc2 => ?_); cbv) | ((with_reducible refine hA.ssl _ _ _ _ ⟨?_, fun sl hsl => ?_⟩); rotate_left; cbv) | ((with_reducible refine hA.sapp _ _ _ ⟨?_, fun sl hsl => ?_⟩); rotate_left; cbv) | ((with_reducible refine hA.s2b _ _ fun es hes => ?_); cbv) | ((with_reducible refine hA.gb0 true _ ?_); cbv) | ((with_reducible refine hA.gb0 false _ ?_); cbv) | ((with_reducible refine hA.gb _ _ fun vb hvb => ?_); cbv) | ((with_reducible refine hA.mget _ _ _ _ ⟨fun mv hmv => ?_, fun hmv => ?_⟩) <;> cbv) | ((with_reducible refine hA.mset _ _ _ _ fun ml hml => ?_); cbv) | (simp only [hA.natLit, hA.natOf, hA.natCast]; cbv)
        all_goals try simp only [hA.add, hA.sub, hA.mul, hA.neg, hA.div, hA.mod, hA.mn, hA.mx, hA.eq, hA.lt, hA.le, hA.nat, hA.R, hA.lep, hA.ltp, hA.seq, inR, n_cast, Int.ofNat_eq_natCast, Option.getD_some, Option.getD_none] at *
        all_goals first
          | omega
          | (rw [k1 (by clear k1 k2 hx hx1 e1 e2 hy1; grind)]; done)
          | (exact k2 (by clear k1 k2 hx hx1 e1 e2 hy1; grind) _ (Weak.keep ⟨rfl, rfl, rfl, rfl, rfl, rfl, trivial⟩))
          | (clear k1 k2; simp at *; omega)
          | (clear k1 k2; grind; done)
          | (trace_state; fail)
      · have hgt : g = true := hpre.2 fun r' hr' => by
          obtain ⟨k, hk, e⟩ := List.getElem_of_mem hr'
          exact j2 k r' (by omega) (by rw [← e]; simp [hk])
        have hK4 := hK2 hgt
        clear hK3 hK2 hd hpre j2
        cbv
        repeat' first | with_reducible rfl | with_reducible refine And.intro ?_ ?_ | with_reducible intro _ | ((with_reducible show goC _ _ _ _ _ _ _ _); cbv) | ((with_reducible show goOps _ _ _ _ _); cbv) | ((with_reducible show okWr _ _ = _); rfl) | (exfalso; simp only [hA.lt, hA.sub, decide_eq_true_eq, decide_eq_false_iff_not, n_cast] at *; omega) | ((with_reducible refine hA.fin_pl _ _ _ ?_); cbv) | ((with_reducible refine hA.len _ _ _ _ _ fun z hz hb => ?_); cbv) | ((with_reducible refine hA.slen _ _ _ _ _ fun z hz hb => ?_); cbv) | ((with_reducible refine hA.off _ _ _ _ fun b hb => ?_); cbv) | ((with_reducible refine hA.plus _ _ _ fun b hb => ?_); cbv) | ((with_reducible refine hA.rep _ _ _ fun ds m hds hm => ?_); cbv) | ((with_reducible refine hA.app _ _ _ _ _ ⟨?_, fun zs m hzs hm => ?_⟩); rotate_left; cbv) | ((with_reducible refine hA.app0 _ _ _ ⟨?_, fun m hm => ?_⟩); rotate_left; cbv) | ((with_reducible refine hA.slc _ _ _ _ _ ⟨?_, fun zs hzs => ?_⟩); rotate_left; cbv) | ((with_reducible refine hA.st _ _ _ _ _ ⟨?_, fun ds hds => ?_⟩); rotate_left; cbv) | ((with_reducible refine hA.alt _ _ (Or.inl ?_)); cbv) | ((with_reducible refine hA.appv _ _ _ _ _ _ ⟨?_, fun bb m ds hbb hm hds => ?_⟩); rotate_left; cbv) | ((with_reducible refine hA.vsl _ _ _ _ ⟨?_, fun m hm => ?_⟩); rotate_left; cbv) | ((with_reducible refine hA.six _ _ _ fun z6 c hz6 hc hc2 => ?_); cbv) | ((with_reducible refine hA.ssl _ _ _ _ ⟨?_, fun sl hsl => ?_⟩); rotate_left; cbv) | ((with_reducible refine hA.sapp _ _ _ ⟨?_, fun sl hsl => ?_⟩); rotate_left; cbv) | ((with_reducible refine hA.s2b _ _ fun es hes => ?_); cbv) | ((with_reducible refine hA.gb0 true _ ?_); cbv) | ((with_reducible refine hA.gb0 false _ ?_); cbv) | ((with_reducible refine hA.gb _ _ fun vb hvb => ?_); cbv) | ((with_reducible refine hA.mget _ _ _ _ ⟨fun mv hmv => ?_, fun hmv => ?_⟩) <;> cbv) | ((with_reducible refine hA.mset _ _ _ _ fun ml hml => ?_); cbv) | (simp only [hA.natLit, hA.natOf, hA.natCast]; cbv)
        all_goals try simp only [hA.add, hA.sub, hA.mul, hA.neg, hA.div, hA.mod, hA.mn, hA.mx, hA.eq, hA.lt, hA.le, hA.nat, hA.R, hA.lep, hA.ltp, hA.seq, inR, n_cast, Int.ofNat_eq_natCast, Option.getD_some, Option.getD_none] at *
        all_goals first
          | omega
          | (refine hK4 _ ?_ _ (Weak.ren (l0 := []) [0] (fun t => [(4, .int (i + 1)), (3, .int _), (2, .bool false), (1, .ref (t 0) 0)]) (fun t => [.box [.e (.sl x)]]) rfl ⟨.inl rfl, .inl rfl, .inl rfl, .inl rfl, trivial⟩ ⟨rfl, trivial⟩ ⟨fun t => rfl, rfl, fun t => rfl, by simp [O.lt, lts, D.lt]⟩)
             omega)
          | (clear hK4; simp at *; omega)
          | (trace_state; fail)
  · have hd0 : ts.drop i.toNat = [] := by rw [List.drop_eq_nil_iff]; omega
    rw [hd0] at h3
    have h3 : rows + 0 = sumC rlen ts := h3
    have hr3 := d3 h50 fun j t ht => h4 j t (by have := (List.getElem?_eq_some_iff.1 ht).1; omega) ht
    clear hK h4 d1 d2 d3
    cbv
    repeat' first | with_reducible rfl | with_reducible refine And.intro ?_ ?_ | with_reducible intro _ | ((with_reducible show goC _ _ _ _ _ _ _ _); cbv) | ((with_reducible show goOps _ _ _ _ _); cbv) | ((with_reducible show okWr _ _ = _); rfl) | (exfalso; simp only [hA.lt, hA.sub, decide_eq_true_eq, decide_eq_false_iff_not, n_cast] at *; omega) | ((with_reducible refine hA.fin_pl _ _ _ ?_); cbv) | ((with_reducible refine hA.len _ _ _ _ _ fun z hz hb => ?_); cbv) | ((with_reducible refine hA.slen _ _ _ _ _ fun z hz hb => ?_); cbv) | ((with_reducible refine hA.off _ _ _ _ fun b hb => ?_); cbv) | ((with_reducible refine hA.plus _ _ _ fun b hb => ?_); cbv) | ((with_reducible refine hA.rep _ _ _ fun ds m hds hm => ?_); cbv) | ((with_reducible refine hA.app _ _ _ _ _ ⟨?_, fun zs m hzs hm => ?_⟩); rotate_left; cbv) | ((with_reducible refine hA.app0 _ _ _ ⟨?_, fun m hm => ?_⟩); rotate_left; cbv) | ((with_reducible refine hA.slc _ _ _ _ _ ⟨?_, fun zs hzs => ?_⟩); rotate_left; cbv) | ((with_reducible refine hA.st _ _ _ _ _ ⟨?_, fun ds hds => ?_⟩); rotate_left; cbv) | ((with_reducible refine hA.alt _ _ (Or.inl ?_)); cbv) | ((with_reducible refine hA.appv _ _ _ _ _ _ ⟨?_, fun bb m ds hbb hm hds => ?_⟩); rotate_left; cbv) | ((with_reducible refine hA.vsl _ _ _ _ ⟨?_, fun m hm => ?_⟩); rotate_left; cbv) | ((with_reducible refine hA.six _ _ _ fun z6 c hz6 hc hc2 => ?_); cbv) | ((with_reducible refine hA.ssl _ _ _ _ ⟨?_, fun sl hsl => ?_⟩); rotate_left; cbv) | ((with_reducible refine hA.sapp _ _ _ ⟨?_, fun sl hsl => ?_⟩); rotate_left; cbv) | ((with_reducible refine hA.s2b _ _ fun es hes => ?_); cbv) | ((with_reducible refine hA.gb0 true _ ?_); cbv) | ((with_reducible refine hA.gb0 false _ ?_); cbv) | ((with_reducible refine hA.gb _ _ fun vb hvb => ?_); cbv) | ((with_reducible refine hA.mget _ _ _ _ ⟨fun mv hmv => ?_, fun hmv => ?_⟩) <;> cbv) | ((with_reducible refine hA.mset _ _ _ _ fun ml hml => ?_); cbv) | (simp only [hA.natLit, hA.natOf, hA.natCast]; cbv)
    all_goals try simp only [hA.add, hA.sub, hA.mul, hA.neg, hA.div, hA.mod, hA.mn, hA.mx, hA.eq, hA.lt, hA.le, hA.nat, hA.R, hA.lep, hA.ltp, hA.seq, inR, n_cast, Int.ofNat_eq_natCast, Option.getD_some, Option.getD_none] at *
    all_goals first
      | (rw [hr3, ← h3, Int.add_zero]; done)
      | omega
      | (trace_state; fail))
end Go.Proofs.Ytmnhoglkahmlaaa.Ab
