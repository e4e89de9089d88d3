/- The work of plans, by both. -/
import Derived.Test.YtfplalbognalkaaMFnExactPlanWork6
set_option linter.unusedSimpArgs false
set_option linter.unusedVariables false
set_option linter.unnecessarySimpa false
set_option linter.constructorNameAsVariable false
namespace Go.Proofs.Ytfplalbognalkaa.Ab
open Go
set_option maxRecDepth 100000 in
set_option maxHeartbeats 8000000 in
theorem ok86 (ns : List Pd) (x : List (List E)) (hx : x = ns.map pdr) (hin : InP ns) (s : Int → Int) (xs : List (List E)) (hs : ∀ j : Int, 0 ≤ j → j < ns.length → (0 ≤ s j ∧ s j ≤ 2001) ∧ xs.getD j.toNat [] = [E.int (s j)]) (hsl : xs.length = ns.length) :
    ∀ (n : Nat) (i c : Int), 0 ≤ i → i < n → i < ns.length → 0 ≤ c → c ≤ 2001 → Plain Try.prog 86 [.agg [.e (.sl x)], .e (.sl xs), .int i, .int c] (.int (wkF ns s n i c)) := by
  intro n
  induction n with
  | zero => intro i c h1 h2; omega
  | succ n ih =>
    intro i c h1 h2 h3 hc0 hc1
    have hxn : x.length = ns.length := by rw [hx]; simp
    have hi : (0 : Int) ≤ i ∧ i < x.length := by omega
    have his : (0 : Int) ≤ i ∧ i < xs.length := by omega
    obtain ⟨K, T, M, Ex, Exs, L, R, xe, ye, q0, qm, hxe, hye, q1⟩ := pd_at hx hi
    obtain ⟨hK, hKL, hKR⟩ := hin i h1 h3
    obtain ⟨hsi, qs⟩ := hs i h1 h3
    rw [q0] at hK hKL hKR
    simp only at hK hKL hKR
    obtain ⟨si, hsi2⟩ : ∃ z, z = s i := ⟨_, rfl⟩
    rw [← hsi2] at hsi qs
    obtain ⟨res, hres⟩ : ∃ v, v = wkF ns s (n + 1) i c := ⟨_, rfl⟩
    rw [← hres]
    simp only [wkF, wkN] at hres
    rw [q0, ← hsi2] at hres
    simp only at hres
    refine okOf mixed p86 fun A P hA hP => ?_
    have h288 := ok141 K
    obtain ⟨p, hp⟩ : ∃ z, z = A.mul c si := ⟨_, rfl⟩
    have hp2 : p = c * si := by rw [hp, hA.mul]
    have hp0 : 0 ≤ p := by rw [hp2]; exact Int.mul_nonneg hc0 hsi.1
    have hp1 : p ≤ 2001 * 2001 := by rw [hp2]; exact Int.mul_le_mul hc1 hsi.2 hsi.1 (by omega)
    rw [← hp2] at hres
    have h295 := ok149 p
    have hm0 := (capW_rng hp0).1
    obtain ⟨m, hm⟩ : ∃ m, m = capW p := ⟨_, rfl⟩
    rw [← hm] at h295 hres hm0
    rcases (show (K = 1 ∨ K = 2) ∨ (K = 3 ∨ K = 4 ∨ K = 9) ∨ (K = 5 ∨ K = 10) ∨ K = 6 ∨ K = 7 ∨ K = 8 by omega) with k | k | k | k | k | k
    · have hk : kidsN K = 0 := by unfold kidsN; rw [if_pos k]
      rw [hk] at h288
      have l0 : A.lt 0 0 = false := by rw [hA.lt]; rfl
      have l1 : A.lt 1 0 = false := by rw [hA.lt]; rfl
      have e1 : hasL K = false := by simp [hasL]; omega
      have e2 : hasR K = false := by simp [hasR]; omega
      rw [e1, e2] at hres
      simp only [Bool.false_eq_true, if_false] at hres
      clear hs hin ih hKL hKR q0 qm
      cbv
      repeat' first | with_reducible rfl | (simp only [← hp, l0, l1]; cbv) | with_reducible refine And.intro ?_ ?_ | ((with_reducible intro hcc); first | (cases hcc; done) | skip) | ((with_reducible first | show goC _ _ _ _ _ _ _ _ | show goOps _ _ _ _ _ | show goD _ _ _ _ _ _); cbv) | ((with_reducible show okWr _ _ = _); rfl) | ((with_reducible refine hA.row x i _ ⟨hi, fun row hrow => ?_⟩); rw [q1] at hrow; subst hrow; cbv) | ((with_reducible refine hA.row xs i _ ⟨his, fun row hrow => ?_⟩); rw [qs] at hrow; subst hrow; cbv) | ((with_reducible refine hA.st [_, _, _, _, _, _, _] _ _ _ _ ⟨?_, fun ds hds => ?_⟩); rotate_left; (have hds : ds = [.int K, .int T, .int M, .e (.sl xe), .e (.sl ye), .int L, .int R] := hds); subst hds; cbv) | ((with_reducible first | refine callK_f hA hP h288 ?_ ?_ ?_ | refine callK_f hA hP h295 ?_ ?_ ?_); exact rfl; exact rfl; cbv) | ((with_reducible first | refine hA.fin_pl _ _ _ ?_ | refine hA.off _ _ _ _ fun b hb => ?_ | refine hA.plus _ _ _ fun b hb => ?_ | refine hA.gb0 true _ ?_ | refine hA.gb0 false _ ?_ | refine hA.gb _ _ fun vb hvb => ?_); cbv) | ((with_reducible first | refine hA.st _ _ _ _ _ ⟨?_, fun ds hds => ?_⟩); rotate_left; cbv) | (simp only [hA.lits]; cbv)
      all_goals try simp only [hA.ar, inR, n_cast, Int.ofNat_eq_natCast, Option.getD_some, Option.getD_none] at *
      all_goals first
        | omega
        | trivial
        | (rw [show res = m by clear h295 h288; simp only [decide_eq_true_eq, decide_eq_false_iff_not] at *; omega]; done)
        | (rw [show res = wl by clear h295 h288; simp only [decide_eq_true_eq, decide_eq_false_iff_not] at *; omega]; done)
        | (rw [show res = wr by clear h295 h288; simp only [decide_eq_true_eq, decide_eq_false_iff_not] at *; omega]; done)
        | (simp; done)
        | (trace_state; fail)
    · have hk : kidsN K = 1 := by unfold kidsN; rw [if_neg (by omega), if_pos k]
      rw [hk] at h288
      have l0 : A.lt 0 1 = true := by rw [hA.lt]; rfl
      have l1 : A.lt 1 1 = false := by rw [hA.lt]; rfl
      have e1 : hasL K = true := by simp [hasL]; omega
      have kl := hKL e1
      have hl := ih L c kl.1 (by omega) (by omega) hc0 hc1
      obtain ⟨wl, hwl⟩ : ∃ w, w = wkF ns s n L c := ⟨_, rfl⟩
      rw [← hwl] at hl hres
      have e2 : hasR K = false := by simp [hasR]; omega
      rw [e1, e2] at hres
      simp only [Bool.false_eq_true, if_false, if_true] at hres
      clear hs hin ih hKL hKR q0 qm hwl
      cbv
      repeat' first | with_reducible rfl | (simp only [← hp, l0, l1]; cbv) | with_reducible refine And.intro ?_ ?_ | ((with_reducible intro hcc); first | (cases hcc; done) | skip) | ((with_reducible first | show goC _ _ _ _ _ _ _ _ | show goOps _ _ _ _ _ | show goD _ _ _ _ _ _); cbv) | ((with_reducible show okWr _ _ = _); rfl) | ((with_reducible refine hA.row x i _ ⟨hi, fun row hrow => ?_⟩); rw [q1] at hrow; subst hrow; cbv) | ((with_reducible refine hA.row xs i _ ⟨his, fun row hrow => ?_⟩); rw [qs] at hrow; subst hrow; cbv) | ((with_reducible refine hA.st [_, _, _, _, _, _, _] _ _ _ _ ⟨?_, fun ds hds => ?_⟩); rotate_left; (have hds : ds = [.int K, .int T, .int M, .e (.sl xe), .e (.sl ye), .int L, .int R] := hds); subst hds; cbv) | ((with_reducible first | refine callK_f hA hP h288 ?_ ?_ ?_ | refine callK_f hA hP h295 ?_ ?_ ?_ | refine callK_f hA hP hl ?_ ?_ ?_); exact rfl; exact rfl; cbv) | ((with_reducible first | refine hA.fin_pl _ _ _ ?_ | refine hA.off _ _ _ _ fun b hb => ?_ | refine hA.plus _ _ _ fun b hb => ?_ | refine hA.gb0 true _ ?_ | refine hA.gb0 false _ ?_ | refine hA.gb _ _ fun vb hvb => ?_); cbv) | ((with_reducible first | refine hA.st _ _ _ _ _ ⟨?_, fun ds hds => ?_⟩); rotate_left; cbv) | (simp only [hA.lits]; cbv)
      all_goals try simp only [hA.ar, inR, n_cast, Int.ofNat_eq_natCast, Option.getD_some, Option.getD_none] at *
      all_goals first
        | omega
        | trivial
        | (rw [show res = m by clear h295 h288; simp only [decide_eq_true_eq, decide_eq_false_iff_not] at *; omega]; done)
        | (rw [show res = wl by clear h295 h288; simp only [decide_eq_true_eq, decide_eq_false_iff_not] at *; omega]; done)
        | (rw [show res = wr by clear h295 h288; simp only [decide_eq_true_eq, decide_eq_false_iff_not] at *; omega]; done)
        | (simp; done)
        | (trace_state; fail)
    · have hk : kidsN K = 2 := by unfold kidsN; rw [if_neg (by omega), if_neg (by omega), if_pos (by omega)]
      rw [hk] at h288
      have l0 : A.lt 0 2 = true := by rw [hA.lt]; rfl
      have l1 : A.lt 1 2 = true := by rw [hA.lt]; rfl
      have e1 : hasL K = true := by simp [hasL]; omega
      have kl := hKL e1
      have hl := ih L c kl.1 (by omega) (by omega) hc0 hc1
      obtain ⟨wl, hwl⟩ : ∃ w, w = wkF ns s n L c := ⟨_, rfl⟩
      rw [← hwl] at hl hres
      have e2 : hasR K = true := by simp [hasR]; omega
      have kr := hKR e2
      have e3 : depK K = false := by simp [depK]; omega
      rw [e1, e2, e3] at hres
      simp only [Bool.false_eq_true, if_true, if_false] at hres
      have v6 : A.eq K 6 = false := by rw [hA.eq]; exact decide_eq_false (by omega)
      have v7 : A.eq K 7 = false := by rw [hA.eq]; exact decide_eq_false (by omega)
      have v8 : A.eq K 8 = false := by rw [hA.eq]; exact decide_eq_false (by omega)
      have hr := ih R c kr.1 (by omega) (by omega) hc0 hc1
      obtain ⟨wr, hwr⟩ : ∃ w, w = wkF ns s n R c := ⟨_, rfl⟩
      rw [← hwr] at hr hres
      clear hs hin ih hKL hKR q0 qm hwl hwr
      cbv
      repeat' first | with_reducible rfl | (simp only [← hp, l0, l1, v6, v7, v8]; cbv) | with_reducible refine And.intro ?_ ?_ | ((with_reducible intro hcc); first | (cases hcc; done) | skip) | ((with_reducible first | show goC _ _ _ _ _ _ _ _ | show goOps _ _ _ _ _ | show goD _ _ _ _ _ _); cbv) | ((with_reducible show okWr _ _ = _); rfl) | ((with_reducible refine hA.row x i _ ⟨hi, fun row hrow => ?_⟩); rw [q1] at hrow; subst hrow; cbv) | ((with_reducible refine hA.row xs i _ ⟨his, fun row hrow => ?_⟩); rw [qs] at hrow; subst hrow; cbv) | ((with_reducible refine hA.st [_, _, _, _, _, _, _] _ _ _ _ ⟨?_, fun ds hds => ?_⟩); rotate_left; (have hds : ds = [.int K, .int T, .int M, .e (.sl xe), .e (.sl ye), .int L, .int R] := hds); subst hds; cbv) | ((with_reducible first | refine callK_f hA hP h288 ?_ ?_ ?_ | refine callK_f hA hP h295 ?_ ?_ ?_ | refine callK_f hA hP hl ?_ ?_ ?_ | refine callK_f hA hP hr ?_ ?_ ?_); exact rfl; exact rfl; cbv) | ((with_reducible first | refine hA.fin_pl _ _ _ ?_ | refine hA.off _ _ _ _ fun b hb => ?_ | refine hA.plus _ _ _ fun b hb => ?_ | refine hA.gb0 true _ ?_ | refine hA.gb0 false _ ?_ | refine hA.gb _ _ fun vb hvb => ?_); cbv) | ((with_reducible first | refine hA.st _ _ _ _ _ ⟨?_, fun ds hds => ?_⟩); rotate_left; cbv) | (simp only [hA.lits]; cbv)
      all_goals try simp only [hA.ar, inR, n_cast, Int.ofNat_eq_natCast, Option.getD_some, Option.getD_none] at *
      all_goals first
        | omega
        | trivial
        | (rw [show res = m by clear h295 h288; simp only [decide_eq_true_eq, decide_eq_false_iff_not] at *; omega]; done)
        | (rw [show res = wl by clear h295 h288; simp only [decide_eq_true_eq, decide_eq_false_iff_not] at *; omega]; done)
        | (rw [show res = wr by clear h295 h288; simp only [decide_eq_true_eq, decide_eq_false_iff_not] at *; omega]; done)
        | (simp; done)
        | (trace_state; fail)
    · have hk : kidsN K = 2 := by unfold kidsN; rw [if_neg (by omega), if_neg (by omega), if_pos (by omega)]
      rw [hk] at h288
      have l0 : A.lt 0 2 = true := by rw [hA.lt]; rfl
      have l1 : A.lt 1 2 = true := by rw [hA.lt]; rfl
      have e1 : hasL K = true := by simp [hasL]; omega
      have kl := hKL e1
      have hl := ih L c kl.1 (by omega) (by omega) hc0 hc1
      obtain ⟨wl, hwl⟩ : ∃ w, w = wkF ns s n L c := ⟨_, rfl⟩
      rw [← hwl] at hl hres
      have e2 : hasR K = true := by simp [hasR]; omega
      have kr := hKR e2
      have e3 : depK K = true := by simp [depK]; omega
      rw [e1, e2, e3] at hres
      simp only [Bool.false_eq_true, if_true, if_false] at hres
      have v6 : A.eq K 6 = true := by rw [hA.eq]; exact decide_eq_true (by omega)
      have v7 : A.eq K 7 = false := by rw [hA.eq]; exact decide_eq_false (by omega)
      have v8 : A.eq K 8 = false := by rw [hA.eq]; exact decide_eq_false (by omega)
      obtain ⟨hsL, qL⟩ := hs L kl.1 (by omega)
      obtain ⟨sl, hsL2⟩ : ∃ z, z = s L := ⟨_, rfl⟩
      rw [← hsL2] at hsL qL hres
      have hLx : (0 : Int) ≤ L ∧ L < xs.length := by omega
      obtain ⟨p', hp'⟩ : ∃ z, z = A.mul c sl := ⟨_, rfl⟩
      have hp'2 : p' = c * sl := by rw [hp', hA.mul]
      have hp'0 : 0 ≤ p' := by rw [hp'2]; exact Int.mul_nonneg hc0 hsL.1
      have hp'1 : p' ≤ 2001 * 2001 := by rw [hp'2]; exact Int.mul_le_mul hc1 hsL.2 hsL.1 (by omega)
      rw [← hp'2] at hres
      have h295' := ok149 p'
      have hcr := capW_rng hp'0
      obtain ⟨c', hc'⟩ : ∃ m, m = capW p' := ⟨_, rfl⟩
      rw [← hc'] at h295' hres hcr
      have hr := ih R c' kr.1 (by omega) (by omega) hcr.1 hcr.2
      obtain ⟨wr, hwr⟩ : ∃ w, w = wkF ns s n R c' := ⟨_, rfl⟩
      rw [← hwr] at hr hres
      clear hs hin ih hKL hKR q0 qm hwl hwr
      cbv
      repeat' first | with_reducible rfl | (simp only [← hp, l0, l1, ← hp', v6, v7, v8]; cbv) | with_reducible refine And.intro ?_ ?_ | ((with_reducible intro hcc); first | (cases hcc; done) | skip) | ((with_reducible first | show goC _ _ _ _ _ _ _ _ | show goOps _ _ _ _ _ | show goD _ _ _ _ _ _); cbv) | ((with_reducible show okWr _ _ = _); rfl) | ((with_reducible refine hA.row x i _ ⟨hi, fun row hrow => ?_⟩); rw [q1] at hrow; subst hrow; cbv) | ((with_reducible refine hA.row xs i _ ⟨his, fun row hrow => ?_⟩); rw [qs] at hrow; subst hrow; cbv) | ((with_reducible refine hA.st [_, _, _, _, _, _, _] _ _ _ _ ⟨?_, fun ds hds => ?_⟩); rotate_left; (have hds : ds = [.int K, .int T, .int M, .e (.sl xe), .e (.sl ye), .int L, .int R] := hds); subst hds; cbv) | ((with_reducible refine hA.row xs L _ ⟨hLx, fun row hrow => ?_⟩); rw [qL] at hrow; subst hrow; cbv) | ((with_reducible first | refine callK_f hA hP h288 ?_ ?_ ?_ | refine callK_f hA hP h295 ?_ ?_ ?_ | refine callK_f hA hP h295' ?_ ?_ ?_ | refine callK_f hA hP hl ?_ ?_ ?_ | refine callK_f hA hP hr ?_ ?_ ?_); exact rfl; exact rfl; cbv) | ((with_reducible first | refine hA.fin_pl _ _ _ ?_ | refine hA.off _ _ _ _ fun b hb => ?_ | refine hA.plus _ _ _ fun b hb => ?_ | refine hA.gb0 true _ ?_ | refine hA.gb0 false _ ?_ | refine hA.gb _ _ fun vb hvb => ?_); cbv) | ((with_reducible first | refine hA.st _ _ _ _ _ ⟨?_, fun ds hds => ?_⟩); rotate_left; cbv) | (simp only [hA.lits]; cbv)
      all_goals try simp only [hA.ar, inR, n_cast, Int.ofNat_eq_natCast, Option.getD_some, Option.getD_none] at *
      all_goals first
        | omega
        | trivial
        | (rw [show res = m by clear h295 h288; simp only [decide_eq_true_eq, decide_eq_false_iff_not] at *; omega]; done)
        | (rw [show res = wl by clear h295 h288; simp only [decide_eq_true_eq, decide_eq_false_iff_not] at *; omega]; done)
        | (rw [show res = wr by clear h295 h288; simp only [decide_eq_true_eq, decide_eq_false_iff_not] at *; omega]; done)
        | (simp; done)
        | (trace_state; fail)
    · have hk : kidsN K = 2 := by unfold kidsN; rw [if_neg (by omega), if_neg (by omega), if_pos (by omega)]
      rw [hk] at h288
      have l0 : A.lt 0 2 = true := by rw [hA.lt]; rfl
      have l1 : A.lt 1 2 = true := by rw [hA.lt]; rfl
      have e1 : hasL K = true := by simp [hasL]; omega
      have kl := hKL e1
      have hl := ih L c kl.1 (by omega) (by omega) hc0 hc1
      obtain ⟨wl, hwl⟩ : ∃ w, w = wkF ns s n L c := ⟨_, rfl⟩
      rw [← hwl] at hl hres
      have e2 : hasR K = true := by simp [hasR]; omega
      have kr := hKR e2
      have e3 : depK K = true := by simp [depK]; omega
      rw [e1, e2, e3] at hres
      simp only [Bool.false_eq_true, if_true, if_false] at hres
      have v6 : A.eq K 6 = false := by rw [hA.eq]; exact decide_eq_false (by omega)
      have v7 : A.eq K 7 = true := by rw [hA.eq]; exact decide_eq_true (by omega)
      have v8 : A.eq K 8 = false := by rw [hA.eq]; exact decide_eq_false (by omega)
      obtain ⟨hsL, qL⟩ := hs L kl.1 (by omega)
      obtain ⟨sl, hsL2⟩ : ∃ z, z = s L := ⟨_, rfl⟩
      rw [← hsL2] at hsL qL hres
      have hLx : (0 : Int) ≤ L ∧ L < xs.length := by omega
      obtain ⟨p', hp'⟩ : ∃ z, z = A.mul c sl := ⟨_, rfl⟩
      have hp'2 : p' = c * sl := by rw [hp', hA.mul]
      have hp'0 : 0 ≤ p' := by rw [hp'2]; exact Int.mul_nonneg hc0 hsL.1
      have hp'1 : p' ≤ 2001 * 2001 := by rw [hp'2]; exact Int.mul_le_mul hc1 hsL.2 hsL.1 (by omega)
      rw [← hp'2] at hres
      have h295' := ok149 p'
      have hcr := capW_rng hp'0
      obtain ⟨c', hc'⟩ : ∃ m, m = capW p' := ⟨_, rfl⟩
      rw [← hc'] at h295' hres hcr
      have hr := ih R c' kr.1 (by omega) (by omega) hcr.1 hcr.2
      obtain ⟨wr, hwr⟩ : ∃ w, w = wkF ns s n R c' := ⟨_, rfl⟩
      rw [← hwr] at hr hres
      clear hs hin ih hKL hKR q0 qm hwl hwr
      cbv
      repeat' first | with_reducible rfl | (simp only [← hp, l0, l1, ← hp', v6, v7, v8]; cbv) | with_reducible refine And.intro ?_ ?_ | ((with_reducible intro hcc); first | (cases hcc; done) | skip) | ((with_reducible first | show goC _ _ _ _ _ _ _ _ | show goOps _ _ _ _ _ | show goD _ _ _ _ _ _); cbv) | ((with_reducible show okWr _ _ = _); rfl) | ((with_reducible refine hA.row x i _ ⟨hi, fun row hrow => ?_⟩); rw [q1] at hrow; subst hrow; cbv) | ((with_reducible refine hA.row xs i _ ⟨his, fun row hrow => ?_⟩); rw [qs] at hrow; subst hrow; cbv) | ((with_reducible refine hA.st [_, _, _, _, _, _, _] _ _ _ _ ⟨?_, fun ds hds => ?_⟩); rotate_left; (have hds : ds = [.int K, .int T, .int M, .e (.sl xe), .e (.sl ye), .int L, .int R] := hds); subst hds; cbv) | ((with_reducible refine hA.row xs L _ ⟨hLx, fun row hrow => ?_⟩); rw [qL] at hrow; subst hrow; cbv) | ((with_reducible first | refine callK_f hA hP h288 ?_ ?_ ?_ | refine callK_f hA hP h295 ?_ ?_ ?_ | refine callK_f hA hP h295' ?_ ?_ ?_ | refine callK_f hA hP hl ?_ ?_ ?_ | refine callK_f hA hP hr ?_ ?_ ?_); exact rfl; exact rfl; cbv) | ((with_reducible first | refine hA.fin_pl _ _ _ ?_ | refine hA.off _ _ _ _ fun b hb => ?_ | refine hA.plus _ _ _ fun b hb => ?_ | refine hA.gb0 true _ ?_ | refine hA.gb0 false _ ?_ | refine hA.gb _ _ fun vb hvb => ?_); cbv) | ((with_reducible first | refine hA.st _ _ _ _ _ ⟨?_, fun ds hds => ?_⟩); rotate_left; cbv) | (simp only [hA.lits]; cbv)
      all_goals try simp only [hA.ar, inR, n_cast, Int.ofNat_eq_natCast, Option.getD_some, Option.getD_none] at *
      all_goals first
        | omega
        | trivial
        | (rw [show res = m by clear h295 h288; simp only [decide_eq_true_eq, decide_eq_false_iff_not] at *; omega]; done)
        | (rw [show res = wl by clear h295 h288; simp only [decide_eq_true_eq, decide_eq_false_iff_not] at *; omega]; done)
        | (rw [show res = wr by clear h295 h288; simp only [decide_eq_true_eq, decide_eq_false_iff_not] at *; omega]; done)
        | (simp; done)
        | (trace_state; fail)
    · have hk : kidsN K = 2 := by unfold kidsN; rw [if_neg (by omega), if_neg (by omega), if_pos (by omega)]
      rw [hk] at h288
      have l0 : A.lt 0 2 = true := by rw [hA.lt]; rfl
      have l1 : A.lt 1 2 = true := by rw [hA.lt]; rfl
      have e1 : hasL K = true := by simp [hasL]; omega
      have kl := hKL e1
      have hl := ih L c kl.1 (by omega) (by omega) hc0 hc1
      obtain ⟨wl, hwl⟩ : ∃ w, w = wkF ns s n L c := ⟨_, rfl⟩
      rw [← hwl] at hl hres
      have e2 : hasR K = true := by simp [hasR]; omega
      have kr := hKR e2
      have e3 : depK K = true := by simp [depK]; omega
      rw [e1, e2, e3] at hres
      simp only [Bool.false_eq_true, if_true, if_false] at hres
      have v6 : A.eq K 6 = false := by rw [hA.eq]; exact decide_eq_false (by omega)
      have v7 : A.eq K 7 = false := by rw [hA.eq]; exact decide_eq_false (by omega)
      have v8 : A.eq K 8 = true := by rw [hA.eq]; exact decide_eq_true (by omega)
      obtain ⟨hsL, qL⟩ := hs L kl.1 (by omega)
      obtain ⟨sl, hsL2⟩ : ∃ z, z = s L := ⟨_, rfl⟩
      rw [← hsL2] at hsL qL hres
      have hLx : (0 : Int) ≤ L ∧ L < xs.length := by omega
      obtain ⟨p', hp'⟩ : ∃ z, z = A.mul c sl := ⟨_, rfl⟩
      have hp'2 : p' = c * sl := by rw [hp', hA.mul]
      have hp'0 : 0 ≤ p' := by rw [hp'2]; exact Int.mul_nonneg hc0 hsL.1
      have hp'1 : p' ≤ 2001 * 2001 := by rw [hp'2]; exact Int.mul_le_mul hc1 hsL.2 hsL.1 (by omega)
      rw [← hp'2] at hres
      have h295' := ok149 p'
      have hcr := capW_rng hp'0
      obtain ⟨c', hc'⟩ : ∃ m, m = capW p' := ⟨_, rfl⟩
      rw [← hc'] at h295' hres hcr
      have hr := ih R c' kr.1 (by omega) (by omega) hcr.1 hcr.2
      obtain ⟨wr, hwr⟩ : ∃ w, w = wkF ns s n R c' := ⟨_, rfl⟩
      rw [← hwr] at hr hres
      clear hs hin ih hKL hKR q0 qm hwl hwr
      cbv
      repeat' first | with_reducible rfl | (simp only [← hp, l0, l1, ← hp', v6, v7, v8]; cbv) | with_reducible refine And.intro ?_ ?_ | ((with_reducible intro hcc); first | (cases hcc; done) | skip) | ((with_reducible first | show goC _ _ _ _ _ _ _ _ | show goOps _ _ _ _ _ | show goD _ _ _ _ _ _); cbv) | ((with_reducible show okWr _ _ = _); rfl) | ((with_reducible refine hA.row x i _ ⟨hi, fun row hrow => ?_⟩); rw [q1] at hrow; subst hrow; cbv) | ((with_reducible refine hA.row xs i _ ⟨his, fun row hrow => ?_⟩); rw [qs] at hrow; subst hrow; cbv) | ((with_reducible refine hA.st [_, _, _, _, _, _, _] _ _ _ _ ⟨?_, fun ds hds => ?_⟩); rotate_left; (have hds : ds = [.int K, .int T, .int M, .e (.sl xe), .e (.sl ye), .int L, .int R] := hds); subst hds; cbv) | ((with_reducible refine hA.row xs L _ ⟨hLx, fun row hrow => ?_⟩); rw [qL] at hrow; subst hrow; cbv) | ((with_reducible first | refine callK_f hA hP h288 ?_ ?_ ?_ | refine callK_f hA hP h295 ?_ ?_ ?_ | refine callK_f hA hP h295' ?_ ?_ ?_ | refine callK_f hA hP hl ?_ ?_ ?_ | refine callK_f hA hP hr ?_ ?_ ?_); exact rfl; exact rfl; cbv) | ((with_reducible first | refine hA.fin_pl _ _ _ ?_ | refine hA.off _ _ _ _ fun b hb => ?_ | refine hA.plus _ _ _ fun b hb => ?_ | refine hA.gb0 true _ ?_ | refine hA.gb0 false _ ?_ | refine hA.gb _ _ fun vb hvb => ?_); cbv) | ((with_reducible first | refine hA.st _ _ _ _ _ ⟨?_, fun ds hds => ?_⟩); rotate_left; cbv) | (simp only [hA.lits]; cbv)
      all_goals try simp only [hA.ar, inR, n_cast, Int.ofNat_eq_natCast, Option.getD_some, Option.getD_none] at *
      all_goals first
        | omega
        | trivial
        | (rw [show res = m by clear h295 h288; simp only [decide_eq_true_eq, decide_eq_false_iff_not] at *; omega]; done)
        | (rw [show res = wl by clear h295 h288; simp only [decide_eq_true_eq, decide_eq_false_iff_not] at *; omega]; done)
        | (rw [show res = wr by clear h295 h288; simp only [decide_eq_true_eq, decide_eq_false_iff_not] at *; omega]; done)
        | (simp; done)
        | (trace_state; fail)
/-- The bound of a plan; -1: the plan is not valid. -/
def planWork (ns : List Pd) (ts : List Tb) : Int := if planW ns ts < 0 then -1 else wk ns (sz ns (rowsOf ts)) ((ns.length : Int) - 1) 1
theorem ir_get {ws : List Int} {xs : List (List E)} (h : xs = ws.map ir) {j v : Int} (h0 : 0 ≤ j) (hv : ws[j.toNat]? = some v) : xs.getD j.toNat [] = [E.int v] := by
  subst h
  simp [List.getD, hv]
theorem cb_get {c : List Int} {j : Int} (h0 : 0 ≤ j) (h1 : j < c.length) : c[j.toNat]? = some (c.getD j.toNat 0) := by
  have : j.toNat < c.length := by omega
  simp [List.getD, this]
set_option maxRecDepth 100000 in
set_option maxHeartbeats 8000000 in
theorem ok41 (ns : List Pd) (x : List (List E)) (hx : x = ns.map pdr) (hxl : x.length ≤ 1048576) (hlen : ∀ d ∈ ns, d.Ex.length ≤ 1048576 ∧ d.Exs.length ≤ 1048576 ∧ ∀ e ∈ d.Exs, e.length ≤ 1048576) (ts : List Tb) (xt : List (List E)) (hxt : xt = ts.map tbr) (hsz : cTS ts ≤ 1048576) (hrl : ∀ t : Int, rowsOf ts t ≤ 1048576) :
    Plain Try.prog 41 [.agg [.e (.sl x)], .agg [.e (.sl xt)]] (.int (planWork ns ts)) := okOf mixed p41 fun A P hA hP => (by
  have h245 := ok84 ns x hx hxl hlen ts xt hxt hsz
  have hrw := root_w ns ts
  have hsm := fun o => root_sm (ts := ts) (o := o) fun d hd => (hlen d hd).2.1
  obtain ⟨res, hres⟩ : ∃ v, v = planWork ns ts := ⟨_, rfl⟩
  rw [← hres]
  rw [planWork] at hres
  by_cases hp : planW ns ts < 0
  · rw [if_pos hp] at hres hrw
    have ho : rootO ns ts = none := by
      cases h : rootO ns ts with
      | none => rfl
      | some o => rw [h] at hrw; cases hrw
    rw [ho] at h245
    have h245 : Plain Try.prog 84 [.agg [.e (.sl x)], .agg [.e (.sl xt)]] (.e (.v .nilIface)) := h245
    subst hres
    cbv
    repeat' first | with_reducible rfl | with_reducible refine And.intro ?_ ?_ | ((with_reducible intro hcc); first | (cases hcc; done) | skip) | ((with_reducible first | show goC _ _ _ _ _ _ _ _ | show goOps _ _ _ _ _ | show goD _ _ _ _ _ _); cbv) | ((with_reducible show okWr _ _ = _); rfl) | ((with_reducible first | refine callK_f hA hP h245 ?_ ?_ ?_); exact rfl; exact rfl; cbv) | ((with_reducible first | refine hA.fin_pl _ _ _ ?_ | refine hA.len _ _ _ _ _ fun z hz hb => ?_ | refine hA.off _ _ _ _ fun b hb => ?_ | refine hA.plus _ _ _ fun b hb => ?_ | refine hA.rep _ _ _ fun ds m hds hm => ?_ | refine hA.alt _ _ (Or.inl ?_)); cbv) | ((with_reducible first | refine hA.st _ _ _ _ _ ⟨?_, fun ds hds => ?_⟩); rotate_left; cbv) | (simp only [hA.lits]; cbv)
    all_goals try simp only [hA.ar, inR, n_cast, Int.ofNat_eq_natCast, Option.getD_some, Option.getD_none] at *
    all_goals first | omega | rfl | trivial | (simp; done) | (trace_state; fail)
  rw [if_neg hp] at hres hrw
  obtain ⟨⟨hdb, hord⟩, hscan⟩ := plan_scans (Int.not_lt.1 hp)
  have hin := ord_in hord
  have hall := ord_all hord
  have hn1 : 1 ≤ ns.length ∧ ns.length ≤ 2000 ∧ fr ns (ns.length - 1) = 0 := by
    have := hord
    simp only [ordOk, Bool.and_eq_true, decide_eq_true_eq] at this
    omega
  have hxn : x.length = ns.length := by rw [hx]; simp
  obtain ⟨xs, hxs⟩ : ∃ xs, xs = (szL ns (rowsOf ts)).map ir := ⟨_, rfl⟩
  have h249 := ok88 ns x hx (by omega) ts xt hxt hrl hin hscan xs hxs
  have hsr : ∀ j : Int, 0 ≤ j → j < ns.length → 0 ≤ sz ns (rowsOf ts) j ∧ sz ns (rowsOf ts) j ≤ 2001 := fun j a b => sz_rng hin (rowsOf_nn ts) a b
  have hsg : ∀ j : Int, 0 ≤ j → j < ns.length → xs.getD j.toNat [] = [E.int (sz ns (rowsOf ts) j)] := fun j a b => ir_get hxs a (szL_get a b)
  have hsl : xs.length = ns.length := by rw [hxs, List.length_map, szL_len]
  obtain ⟨s, hs⟩ : ∃ s, s = sz ns (rowsOf ts) := ⟨_, rfl⟩
  rw [← hs] at hres hsr hsg
  obtain ⟨o, ho⟩ : ∃ o, rootO ns ts = some o := by
    cases h : rootO ns ts with
    | none => rw [h] at hrw; cases hrw
    | some o => exact ⟨o, rfl⟩
  obtain ⟨s1, s2, s3⟩ := hsm o ho
  obtain ⟨T3, c3, w3, b1, b2, b3⟩ := wid_of s1 (by omega)
  rw [ho] at h245
  have h245 : Plain Try.prog 84 [.agg [.e (.sl x)], .agg [.e (.sl xt)]] (.e (.ia T3 c3)) := by rw [← b1]; exact h245
  obtain ⟨ze, hze⟩ : ∃ z : Int, z = x.length := ⟨_, rfl⟩
  obtain ⟨n, hn⟩ : ∃ n : Nat, n = x.length := ⟨_, rfl⟩
  obtain ⟨zl, hzl⟩ : ∃ z, z = A.sub ze 1 := ⟨_, rfl⟩
  have hzl2 : zl = (ns.length : Int) - 1 := by rw [hzl, hA.sub]; omega
  have hnz : A.sub (n : Int) 1 = zl := by rw [hzl, show (n : Int) = ze by omega]
  have hnz2 : A.sub (Int.ofNat n) 1 = zl := hnz
  clear hrw hsm ho hp hlen hscan hord hdb b1 b2 b3 s1 s2 s3
  cbv
  repeat' first | with_reducible rfl | (simp only [hnz, hnz2, ← hzl]; cbv) | with_reducible refine And.intro ?_ ?_ | ((with_reducible intro hcc); first | (cases hcc; done) | skip) | ((with_reducible first | show goC _ _ _ _ _ _ _ _ | show goOps _ _ _ _ _ | show goD _ _ _ _ _ _); cbv) | ((with_reducible show okWr _ _ = _); rfl) | ((with_reducible first | refine callK_f hA hP h245 ?_ ?_ ?_ | refine callK_f hA hP h249 ?_ ?_ ?_); exact rfl; exact rfl; cbv) | ((with_reducible refine hA.len x _ _ _ _ fun z hz hb => ?_); (have e6 := hze.trans hz.symm); subst e6; cbv) | ((with_reducible refine hA.rep _ _ _ fun ds0 m hds0 hm => ?_); (have e7 : n = m := (by rw [hn, hm, hze]; rfl)); subst e7; cbv) | ((with_reducible first | refine hA.fin_pl _ _ _ ?_ | refine hA.len _ _ _ _ _ fun z hz hb => ?_ | refine hA.off _ _ _ _ fun b hb => ?_ | refine hA.plus _ _ _ fun b hb => ?_ | refine hA.rep _ _ _ fun ds m hds hm => ?_ | refine hA.alt _ _ (Or.inl ?_)); cbv) | ((with_reducible first | refine hA.st _ _ _ _ _ ⟨?_, fun ds hds => ?_⟩); rotate_left; cbv) | (simp only [hA.lits]; cbv)
  all_goals try simp only [hA.ar, inR, n_cast, Int.ofNat_eq_natCast, Option.getD_some, Option.getD_none] at *
  all_goals try first | omega | trivial
  rotate_left
  · have g0 : ds0 = dsI (List.replicate n 0) := by rw [← rep_dsI n, hds0, show n = ze.toNat by omega]
    rw [g0, dsI_len, List.length_replicate]
    omega
  have g0 : ds0 = dsI (List.replicate n 0) := by rw [← rep_dsI n, hds0, show n = ze.toNat by omega]
  have g1 : ds = dsI ((List.replicate n 0).set zl.toNat 1) := dsI_set g0 (by rw [List.length_replicate]; omega) (by rw [hds, show b = zl.toNat by omega])
  clear h245 h249 g0 hds
  refine hA.loopI (fun mm st => ∃ (i w : Int) (c1 : List Int) (ds1 : List D), -1 ≤ i ∧ i < ns.length ∧ mm = (i + 1).toNat ∧ 0 ≤ w ∧ c1.length = n ∧ (∀ j : Int, 0 ≤ j → j < n → 0 ≤ c1.getD j.toNat 0 ∧ c1.getD j.toNat 0 ≤ 2001) ∧ res = max w (pnd ns s (fun j => c1.getD j.toNat 0) (n + 1) i) ∧ w ≤ 2001 ∧ ds1 = dsI c1 ∧
      st = ⟨[(8, .int i), (7, .int w), (6, .bs 2 0 n 1), (5, .e (.sl xs)), (2, .ref 0 0)], [.box [.e (.sl x)], .box [.e (.sl xt)], .box ds1]⟩) n _
    (Weak.keep (env' := [(8, .int zl), (7, .int 0), (6, .bs 2 0 n 1), (5, .e (.sl xs)), (2, .ref 0 0)]) ⟨rfl, rfl, rfl, rfl, rfl, trivial⟩)
    ⟨zl, 0, _, _, by omega, by omega, by omega, by omega, by simp, fun j a b => ?_, ?_, by omega, g1, rfl⟩ ?_
  · by_cases hj : zl.toNat = j.toNat
    · rw [← hj, List.getD, List.getElem?_set_self (by rw [List.length_replicate]; omega)]
      exact ⟨by decide, by decide⟩
    · rw [List.getD, List.getElem?_set_ne hj, List.getElem?_replicate]
      rw [if_pos (by omega)]
      exact ⟨by decide, by decide⟩
  · have w0 := wk_nn (ns := ns) (s := s) (i := zl) (c := 1) (by omega) (hsr zl (by omega) (by omega)).1
    have e1 : ((List.replicate n (0 : Int)).set zl.toNat 1).getD zl.toNat 0 = 1 := by rw [List.getD, List.getElem?_set_self (by rw [List.length_replicate]; omega)]; rfl
    rw [pnd, if_neg (by omega), pnd_neg _ (by rw [show zl.toNat = ns.length - 1 by omega, hn1.2.2]; omega)]
    simp only [e1]
    rw [hres, ← hzl2]
    omega
  have hzl := hzl.trans (hA.sub ze 1).symm
  rintro mm st Kk ⟨i, w, c1, ds1, i0, i1, i2, w0, i3, i4, i5, w1, hd1, rfl⟩ hK
  have hl1 : ds1.length = n := by rw [hd1, dsI_len, i3]
  by_cases hi0 : i < 0
  · have e8 : A.le 0 i = false := by rw [hA.le]; exact decide_eq_false (by omega)
    have hrw : res = w := by rw [i5, pnd_neg _ hi0]; omega
    clear hK i4 i5 hsr hsg hin hall hres
    cbv
    repeat' first | with_reducible rfl | (simp only [e8]; cbv) | with_reducible refine And.intro ?_ ?_ | ((with_reducible intro hcc); first | (cases hcc; done) | skip) | ((with_reducible first | show goC _ _ _ _ _ _ _ _ | show goOps _ _ _ _ _ | show goD _ _ _ _ _ _); cbv) | ((with_reducible show okWr _ _ = _); rfl) | ((with_reducible first | refine hA.fin_pl _ _ _ ?_ | refine hA.len _ _ _ _ _ fun z hz hb => ?_ | refine hA.off _ _ _ _ fun b hb => ?_ | refine hA.plus _ _ _ fun b hb => ?_ | refine hA.rep _ _ _ fun ds m hds hm => ?_ | refine hA.alt _ _ (Or.inl ?_)); cbv) | ((with_reducible first | refine hA.st _ _ _ _ _ ⟨?_, fun ds hds => ?_⟩); rotate_left; cbv) | (simp only [hA.lits]; cbv)
    all_goals try simp only [hA.ar, inR, n_cast, Int.ofNat_eq_natCast, Option.getD_some, Option.getD_none] at *
    all_goals first | omega | rfl | trivial | (rw [hrw]; done) | (trace_state; fail)
  have e8 : A.le 0 i = true := by rw [hA.le]; exact decide_eq_true (by omega)
  have hi : (0 : Int) ≤ i ∧ i < x.length := by omega
  have his : (0 : Int) ≤ i ∧ i < xs.length := by omega
  obtain ⟨K, T, M, Ex, Exs, L, R, xe, ye, q0, qm, hxe, hye, q1⟩ := pd_at hx hi
  obtain ⟨hK1, hKL, hKR⟩ := hin i hi.1 (by omega)
  have qs := hsg i hi.1 (by omega)
  have hsi := hsr i hi.1 (by omega)
  have hci := i4 i hi.1 (by omega)
  have cg := cb_get (c := c1) hi.1 (by omega)
  have hstep := fun (C' : Int → Int) a b c => pnd_step (ns := ns) (s := s) (C := fun j => c1.getD j.toNat 0) (C' := C') hin hall (fun j p q => (hsr j p q).1) hi.1 (by omega) (fun j p q => (i4 j p (by omega)).1) (n + 1) (n + 1) (by omega) (by omega) a b c w
  rw [← i5] at hstep
  rw [q0] at hK1 hKL hKR hstep
  simp only at hK1 hKL hKR hstep
  obtain ⟨ci, hci2⟩ : ∃ z, z = c1.getD i.toNat 0 := ⟨_, rfl⟩
  obtain ⟨si, hsi2⟩ : ∃ z, z = s i := ⟨_, rfl⟩
  rw [← hci2] at hci cg hstep
  rw [← hsi2] at hsi qs hstep
  obtain ⟨p, hp⟩ : ∃ z, z = A.mul ci si := ⟨_, rfl⟩
  have hp2 : p = ci * si := by rw [hp, hA.mul]
  have hp0 : 0 ≤ p := by rw [hp2]; exact Int.mul_nonneg hci.1 hsi.1
  have hp1 : p ≤ 2001 * 2001 := by rw [hp2]; exact Int.mul_le_mul hci.2 hsi.2 hsi.1 (by omega)
  rw [← hp2] at hstep
  have h250 := ok89 p
  have hcp := capW_rng hp0
  obtain ⟨m1, hm1⟩ : ∃ m, m = capW p := ⟨_, rfl⟩
  rw [← hm1] at h250 hstep hcp
  obtain ⟨w2, hw2⟩ : ∃ z, z = A.mx w m1 := ⟨_, rfl⟩
  have hw22 : w2 = max w m1 := by rw [hw2, hA.mx]
  rw [← hw22] at hstep
  have h251 := ok90 K
  have h252 := ok91 K
  have h253 := ok92 K
  have hLR : hasR K = true → hasL K = true := fun h => by simp [hasR] at h; simp [hasL]; omega
  have hDR : depK K = true → hasR K = true := fun h => by simp [depK] at h; simp [hasR]; omega
  obtain ⟨bL, hbL⟩ : ∃ b, b = hasL K := ⟨_, rfl⟩
  obtain ⟨bR, hbR⟩ : ∃ b, b = hasR K := ⟨_, rfl⟩
  obtain ⟨bD, hbD⟩ : ∃ b, b = depK K := ⟨_, rfl⟩
  rw [← hbL] at h251 hKL hLR hstep
  rw [← hbR] at h252 hKR hLR hDR hstep
  rw [← hbD] at h253 hDR hstep
  have ldc : ∀ {b : Nat} {c : D}, b = 0 + i.toNat * 1 → c = ds1.getD b default → c = .int ci := fun {b c} a q => dsI_get hd1 (by rw [show b = i.toNat by omega]; exact cg) q
  have hst : ∀ {c : List Int} {ds ds' : List D} {b : Nat} {a k : Int}, ds = dsI c → c.length = n → 0 ≤ k → k < n → ds' = ds.take b ++ [.int a] ++ ds.drop (b + 1) → b = 0 + k.toNat * 1 → ds' = dsI (c.set k.toNat a) ∧ ds'.length = n := fun {c ds ds' b a k} h0 hl ha hb h1 h2 => by
    have e := dsI_set (ds' := ds') (r := a) (off := k.toNat) h0 (by omega) (by rw [h1, show b = k.toNat by omega])
    exact ⟨e, by rw [e, dsI_len, List.length_set, hl]⟩
  have hK2 : ∀ (c2 : List Int) (ds2 : List D) (env : List (Nat × D)) (o3 : O), c2.length = n → (∀ j : Int, 0 ≤ j → j < n → 0 ≤ c2.getD j.toNat 0 ∧ c2.getD j.toNat 0 ≤ 2001) → res = max w2 (pnd ns s (fun j => c2.getD j.toNat 0) (n + 1) (i - 1)) → ds2 = dsI c2 → subL [(8, .int (i - 1)), (7, .int w2), (6, .bs 2 0 n 1), (5, .e (.sl xs)), (2, .ref 0 0)] env → Kk ⟨env, [.box [.e (.sl x)], .box [.e (.sl xt)], .box ds2, o3]⟩ := fun c2 ds2 env o3 a1 a2 a3 a4 hs => by
    refine hK _ (mm - 1) _ (by omega) (Weak.ren (l0 := []) [0, 1, 2] (fun t => [(8, .int (i - 1)), (7, .int w2), (6, .bs (t 2) 0 n 1), (5, .e (.sl xs)), (2, .ref (t 0) 0)]) (fun t => [.box [.e (.sl x)], .box [.e (.sl xt)], .box ds2]) rfl ?_ ⟨rfl, rfl, rfl, trivial⟩ (rb_side a4 (fun t => rfl) rfl))
      ⟨i - 1, w2, c2, ds2, by omega, by omega, by omega, by omega, a1, a2, a3, by omega, a4, rfl⟩
    obtain ⟨u1, u2, u3, u4, u5, _⟩ := hs
    exact ⟨.inl u1, .inl u2, .inl u3, .inl u4, .inl u5, trivial⟩
  have cset : ∀ {c : List Int} {k v : Int}, c.length = n → (∀ j : Int, 0 ≤ j → j < n → 0 ≤ c.getD j.toNat 0 ∧ c.getD j.toNat 0 ≤ 2001) → 0 ≤ k → k < n → 0 ≤ v ∧ v ≤ 2001 → (c.set k.toNat v).length = n ∧ (∀ j : Int, 0 ≤ j → j < n → 0 ≤ (c.set k.toNat v).getD j.toNat 0 ∧ (c.set k.toNat v).getD j.toNat 0 ≤ 2001) ∧ ∀ j : Int, 0 ≤ j → (c.set k.toNat v).getD j.toNat 0 = if j = k then v else c.getD j.toNat 0 := fun {c k v} hl hc h0 h1 hv => by
    have e : ∀ j : Int, 0 ≤ j → (c.set k.toNat v).getD j.toNat 0 = if j = k then v else c.getD j.toNat 0 := fun j hj => by
      by_cases h : j = k
      · rw [if_pos h, h, List.getD, List.getElem?_set_self (by omega)]; rfl
      · rw [if_neg h, List.getD, List.getElem?_set_ne (by omega)]; rfl
    refine ⟨by rw [List.length_set, hl], fun j a b => ?_, e⟩
    rw [e j a]
    split
    · exact hv
    · exact hc j a b
  have hsgL : 0 ≤ L → L < i → xs.getD L.toNat [] = [E.int (s L)] := fun a b => hsg L a (by omega)
  clear hK hsg hres hin hall hm1 q0 qm i5 hbL hbR hbD
  cases bL
  · have hbR : bR = false := Bool.eq_false_iff.2 fun h => Bool.noConfusion (hLR h)
    subst hbR
    have hbD : bD = false := Bool.eq_false_iff.2 fun h => Bool.noConfusion (hDR h)
    subst hbD
    have hs2 := hstep (fun j => c1.getD j.toNat 0) (fun h => by cases h) (fun _ j a b => rfl) (fun h => by cases h)
    clear hstep hLR hDR hKL hKR cset hst
    cbv
    repeat' first | with_reducible rfl | (simp only [← hp, ← hw2, e8]; cbv) | with_reducible refine And.intro ?_ ?_ | ((with_reducible intro hcc); first | (cases hcc; done) | skip) | ((with_reducible first | show goC _ _ _ _ _ _ _ _ | show goOps _ _ _ _ _ | show goD _ _ _ _ _ _); cbv) | ((with_reducible show okWr _ _ = _); rfl) | ((with_reducible first | refine callK_f hA hP h250 ?_ ?_ ?_ | refine callK_f hA hP h251 ?_ ?_ ?_ | refine callK_f hA hP h252 ?_ ?_ ?_ | refine callK_f hA hP h253 ?_ ?_ ?_); exact rfl; exact rfl; cbv) | ((with_reducible refine hA.row x i _ ⟨hi, fun row hrow => ?_⟩); rw [q1] at hrow; subst hrow; cbv) | ((with_reducible refine hA.row xs i _ ⟨his, fun row hrow => ?_⟩); rw [qs] at hrow; subst hrow; cbv) | ((with_reducible refine hA.st [_, _, _, _, _, _, _] _ _ _ _ ⟨?_, fun ds hds => ?_⟩); rotate_left; (have hds : ds = [.int K, .int T, .int M, .e (.sl xe), .e (.sl ye), .int L, .int R] := hds); subst hds; cbv) | ((with_reducible refine hA.ld1 _ _ _ ⟨?_, fun c hc => ?_⟩); rotate_left; (first | ((have e9 := ldc hb hc); subst e9)); cbv) | ((with_reducible first | refine hA.fin_pl _ _ _ ?_ | refine hA.len _ _ _ _ _ fun z hz hb => ?_ | refine hA.off _ _ _ _ fun b hb => ?_ | refine hA.plus _ _ _ fun b hb => ?_ | refine hA.rep _ _ _ fun ds m hds hm => ?_ | refine hA.alt _ _ (Or.inl ?_)); cbv) | ((with_reducible first | refine hA.st _ _ _ _ _ ⟨?_, fun ds hds => ?_⟩); rotate_left; cbv) | (simp only [hA.lits]; cbv)
    all_goals try simp only [hA.ar, inR, n_cast, Int.ofNat_eq_natCast, Option.getD_some, Option.getD_none] at *
    all_goals first
      | omega
      | trivial
      | exact hK2 c1 ds1 _ _ i3 i4 hs2 hd1 ⟨rfl, rfl, rfl, rfl, rfl, trivial⟩
      | (simp; done)
      | (trace_state; fail)
  · have kl := hKL rfl
    obtain ⟨s1, s2, s3⟩ := cset i3 i4 kl.1 (by omega) hci
    have ldc2 : ∀ {ds2 : List D} {b : Nat} {c : D}, ds2 = dsI (c1.set L.toNat ci) → b = 0 + i.toNat * 1 → c = ds2.getD b default → c = .int ci := fun {ds2 b c} h a q => dsI_get h (by rw [show b = i.toNat by omega, List.getElem?_set_ne (by omega)]; exact cg) q
    cases bR
    · have hbD : bD = false := Bool.eq_false_iff.2 fun h => Bool.noConfusion (hDR h)
      subst hbD
      have hs2 := hstep (fun j => (c1.set L.toNat ci).getD j.toNat 0) (fun _ _ j a b => s3 j a) (fun h => by cases h) (fun h => by cases h)
      clear hstep hLR hDR hKL hKR cset s3
      cbv
      repeat' first | with_reducible rfl | (simp only [← hp, ← hw2, e8]; cbv) | with_reducible refine And.intro ?_ ?_ | ((with_reducible intro hcc); first | (cases hcc; done) | skip) | ((with_reducible first | show goC _ _ _ _ _ _ _ _ | show goOps _ _ _ _ _ | show goD _ _ _ _ _ _); cbv) | ((with_reducible show okWr _ _ = _); rfl) | ((with_reducible first | refine callK_f hA hP h250 ?_ ?_ ?_ | refine callK_f hA hP h251 ?_ ?_ ?_ | refine callK_f hA hP h252 ?_ ?_ ?_ | refine callK_f hA hP h253 ?_ ?_ ?_); exact rfl; exact rfl; cbv) | ((with_reducible refine hA.row x i _ ⟨hi, fun row hrow => ?_⟩); rw [q1] at hrow; subst hrow; cbv) | ((with_reducible refine hA.row xs i _ ⟨his, fun row hrow => ?_⟩); rw [qs] at hrow; subst hrow; cbv) | ((with_reducible refine hA.st [_, _, _, _, _, _, _] _ _ _ _ ⟨?_, fun ds hds => ?_⟩); rotate_left; (have hds : ds = [.int K, .int T, .int M, .e (.sl xe), .e (.sl ye), .int L, .int R] := hds); subst hds; cbv) | ((with_reducible refine hA.ld1 _ _ _ ⟨?_, fun c hc => ?_⟩); rotate_left; (first | ((have e9 := ldc hb hc); subst e9)); cbv) | ((with_reducible refine hA.st ds1 _ _ _ _ ⟨?_, fun ds2 hds2 => ?_⟩); rotate_left; (obtain ⟨g2, l2⟩ := hst hd1 i3 kl.1 (by omega) hds2 hb); cbv) | ((with_reducible first | refine hA.fin_pl _ _ _ ?_ | refine hA.len _ _ _ _ _ fun z hz hb => ?_ | refine hA.off _ _ _ _ fun b hb => ?_ | refine hA.plus _ _ _ fun b hb => ?_ | refine hA.rep _ _ _ fun ds m hds hm => ?_ | refine hA.alt _ _ (Or.inl ?_)); cbv) | ((with_reducible first | refine hA.st _ _ _ _ _ ⟨?_, fun ds hds => ?_⟩); rotate_left; cbv) | (simp only [hA.lits]; cbv)
      all_goals try simp only [hA.ar, inR, n_cast, Int.ofNat_eq_natCast, Option.getD_some, Option.getD_none] at *
      all_goals first
        | omega
        | trivial
        | exact hK2 _ _ _ _ s1 s2 hs2 g2 ⟨rfl, rfl, rfl, rfl, rfl, trivial⟩
        | (simp; done)
        | (trace_state; fail)
    · have kr := hKR rfl
      have hne : R ≠ i := by omega
      obtain ⟨t1, t2, t3⟩ := cset s1 s2 kr.1 (by omega) hci
      have ldc3 : ∀ {ds3 : List D} {b : Nat} {c : D}, ds3 = dsI ((c1.set L.toNat ci).set R.toNat ci) → b = 0 + i.toNat * 1 → c = ds3.getD b default → c = .int ci := fun {ds3 b c} h a q => dsI_get h (by rw [show b = i.toNat by omega, List.getElem?_set_ne (by omega), List.getElem?_set_ne (by omega)]; exact cg) q
      cases bD
      · have hs2 := hstep (fun j => ((c1.set L.toNat ci).set R.toNat ci).getD j.toNat 0) (fun _ h => by cases h) (fun h => by cases h) (fun _ j a b => by rw [t3 j a, s3 j a]; simp)
        clear hstep hLR hDR hKL hKR cset s3 t3
        cbv
        repeat' first | with_reducible rfl | (simp only [← hp, ← hw2, e8]; cbv) | with_reducible refine And.intro ?_ ?_ | ((with_reducible intro hcc); first | (cases hcc; done) | skip) | ((with_reducible first | show goC _ _ _ _ _ _ _ _ | show goOps _ _ _ _ _ | show goD _ _ _ _ _ _); cbv) | ((with_reducible show okWr _ _ = _); rfl) | ((with_reducible first | refine callK_f hA hP h250 ?_ ?_ ?_ | refine callK_f hA hP h251 ?_ ?_ ?_ | refine callK_f hA hP h252 ?_ ?_ ?_ | refine callK_f hA hP h253 ?_ ?_ ?_); exact rfl; exact rfl; cbv) | ((with_reducible refine hA.row x i _ ⟨hi, fun row hrow => ?_⟩); rw [q1] at hrow; subst hrow; cbv) | ((with_reducible refine hA.row xs i _ ⟨his, fun row hrow => ?_⟩); rw [qs] at hrow; subst hrow; cbv) | ((with_reducible refine hA.st [_, _, _, _, _, _, _] _ _ _ _ ⟨?_, fun ds hds => ?_⟩); rotate_left; (have hds : ds = [.int K, .int T, .int M, .e (.sl xe), .e (.sl ye), .int L, .int R] := hds); subst hds; cbv) | ((with_reducible refine hA.ld1 _ _ _ ⟨?_, fun c hc => ?_⟩); rotate_left; (first | ((have e9 := ldc hb hc); subst e9) | ((have e9 := ldc2 g2 hb hc); subst e9)); cbv) | ((with_reducible refine hA.st ds1 _ _ _ _ ⟨?_, fun ds2 hds2 => ?_⟩); rotate_left; (obtain ⟨g2, l2⟩ := hst hd1 i3 kl.1 (by omega) hds2 hb); cbv) | ((with_reducible refine hA.st ds2 _ _ _ _ ⟨?_, fun ds3 hds3 => ?_⟩); rotate_left; (obtain ⟨g3, l3⟩ := hst g2 s1 kr.1 (by omega) hds3 hb); cbv) | ((with_reducible first | refine hA.fin_pl _ _ _ ?_ | refine hA.len _ _ _ _ _ fun z hz hb => ?_ | refine hA.off _ _ _ _ fun b hb => ?_ | refine hA.plus _ _ _ fun b hb => ?_ | refine hA.rep _ _ _ fun ds m hds hm => ?_ | refine hA.alt _ _ (Or.inl ?_)); cbv) | ((with_reducible first | refine hA.st _ _ _ _ _ ⟨?_, fun ds hds => ?_⟩); rotate_left; cbv) | (simp only [hA.lits]; cbv)
        all_goals try simp only [hA.ar, inR, n_cast, Int.ofNat_eq_natCast, Option.getD_some, Option.getD_none] at *
        all_goals first
          | omega
          | trivial
          | exact hK2 _ _ _ _ t1 t2 hs2 g3 ⟨rfl, rfl, rfl, rfl, rfl, trivial⟩
          | (simp; done)
          | (trace_state; fail)
      · have hsL := hsr L kl.1 (by omega)
        have qL := hsgL kl.1 kl.2
        have hLx : (0 : Int) ≤ L ∧ L < xs.length := by omega
        obtain ⟨sl, hsL2⟩ : ∃ z, z = s L := ⟨_, rfl⟩
        rw [← hsL2] at hsL qL hstep
        obtain ⟨p', hp'⟩ : ∃ z, z = A.mul ci sl := ⟨_, rfl⟩
        have hp'2 : p' = ci * sl := by rw [hp', hA.mul]
        have hp'0 : 0 ≤ p' := by rw [hp'2]; exact Int.mul_nonneg hci.1 hsL.1
        have hp'1 : p' ≤ 2001 * 2001 := by rw [hp'2]; exact Int.mul_le_mul hci.2 hsL.2 hsL.1 (by omega)
        rw [← hp'2] at hstep
        have h250' := ok89 p'
        have hcp' := capW_rng hp'0
        obtain ⟨cc, hcc2⟩ : ∃ m, m = capW p' := ⟨_, rfl⟩
        rw [← hcc2] at h250' hstep hcp'
        obtain ⟨v1, v2, v3⟩ := cset t1 t2 kr.1 (by omega) hcp'
        have hs2 := hstep (fun j => (((c1.set L.toNat ci).set R.toNat ci).set R.toNat cc).getD j.toNat 0) (fun _ h => by cases h) (fun h => by cases h) (fun _ j a b => by
          rw [v3 j a, t3 j a, s3 j a]
          by_cases h : j = R
          · simp [h]
          · simp [h])
        clear hstep hLR hDR hKL hKR cset s3 t3 v3
        cbv
        repeat' first | with_reducible rfl | (simp only [← hp', ← hp, ← hw2, e8]; cbv) | with_reducible refine And.intro ?_ ?_ | ((with_reducible intro hcc); first | (cases hcc; done) | skip) | ((with_reducible first | show goC _ _ _ _ _ _ _ _ | show goOps _ _ _ _ _ | show goD _ _ _ _ _ _); cbv) | ((with_reducible show okWr _ _ = _); rfl) | ((with_reducible first | refine callK_f hA hP h250 ?_ ?_ ?_ | refine callK_f hA hP h251 ?_ ?_ ?_ | refine callK_f hA hP h252 ?_ ?_ ?_ | refine callK_f hA hP h253 ?_ ?_ ?_); exact rfl; exact rfl; cbv) | ((with_reducible refine hA.row x i _ ⟨hi, fun row hrow => ?_⟩); rw [q1] at hrow; subst hrow; cbv) | ((with_reducible refine hA.row xs i _ ⟨his, fun row hrow => ?_⟩); rw [qs] at hrow; subst hrow; cbv) | ((with_reducible refine hA.st [_, _, _, _, _, _, _] _ _ _ _ ⟨?_, fun ds hds => ?_⟩); rotate_left; (have hds : ds = [.int K, .int T, .int M, .e (.sl xe), .e (.sl ye), .int L, .int R] := hds); subst hds; cbv) | ((with_reducible first | refine callK_f hA hP h250' ?_ ?_ ?_); exact rfl; exact rfl; cbv) | ((with_reducible refine hA.row xs L _ ⟨hLx, fun row hrow => ?_⟩); rw [qL] at hrow; subst hrow; cbv) | ((with_reducible refine hA.ld1 _ _ _ ⟨?_, fun c hc => ?_⟩); rotate_left; (first | ((have e9 := ldc hb hc); subst e9) | ((have e9 := ldc2 g2 hb hc); subst e9) | ((have e9 := ldc3 g3 hb hc); subst e9)); cbv) | ((with_reducible refine hA.st ds1 _ _ _ _ ⟨?_, fun ds2 hds2 => ?_⟩); rotate_left; (obtain ⟨g2, l2⟩ := hst hd1 i3 kl.1 (by omega) hds2 hb); cbv) | ((with_reducible refine hA.st ds2 _ _ _ _ ⟨?_, fun ds3 hds3 => ?_⟩); rotate_left; (obtain ⟨g3, l3⟩ := hst g2 s1 kr.1 (by omega) hds3 hb); cbv) | ((with_reducible refine hA.st ds3 _ _ _ _ ⟨?_, fun ds4 hds4 => ?_⟩); rotate_left; (obtain ⟨g4, l4⟩ := hst g3 t1 kr.1 (by omega) hds4 hb); cbv) | ((with_reducible first | refine hA.fin_pl _ _ _ ?_ | refine hA.len _ _ _ _ _ fun z hz hb => ?_ | refine hA.off _ _ _ _ fun b hb => ?_ | refine hA.plus _ _ _ fun b hb => ?_ | refine hA.rep _ _ _ fun ds m hds hm => ?_ | refine hA.alt _ _ (Or.inl ?_)); cbv) | ((with_reducible first | refine hA.st _ _ _ _ _ ⟨?_, fun ds hds => ?_⟩); rotate_left; cbv) | (simp only [hA.lits]; cbv)
        all_goals try simp only [hA.ar, inR, n_cast, Int.ofNat_eq_natCast, Option.getD_some, Option.getD_none] at *
        all_goals first
          | omega
          | trivial
          | exact hK2 _ _ _ _ v1 v2 hs2 g4 ⟨rfl, rfl, rfl, rfl, rfl, trivial⟩
          | (simp; done)
          | (trace_state; fail))
end Go.Proofs.Ytfplalbognalkaa.Ab
/- The laws' helpers over expressions: measured, copied, alike. -/
namespace Go.Proofs.Ytfplalbognalkaa.Ab
open Go
def cO (r : List (Int × Int)) : Int := r.length
theorem cO_nonneg (r : List (Int × Int)) : 0 ≤ cO r := by unfold cO; omega
def cOS (r : List (List (Int × Int))) : Int := r.length + sumC cO r
theorem cOS_nonneg (r : List (List (Int × Int))) : 0 ≤ cOS r := by have := sumC_nonneg cO_nonneg r; unfold cOS; omega
theorem ok172' (r : List (Int × Int)) (x : List (List E)) (hx : x = r.map orow) (left : Int) (h : 0 ≤ left ∧ left ≤ 1048576) : Plain Try.prog 172 [.e (.sl x), .int left] (.int (cut left (cO r))) := by
  have := ok172 x left h
  rw [hx, List.length_map] at this
  rw [hx]; exact this
set_option maxRecDepth 100000 in
theorem ok173 (l : List (List (Int × Int))) (es : List (List E)) (he : es = l.map orr) (left : Int) (h : 0 ≤ left ∧ left ≤ 1048576) : Plain Try.prog 173 [.e (.sl es), .int left] (.int (cut left (l.length + sumC cO l))) := okOf mixed p173 fun A P hA hP => (by
  have hl1 : es.length = l.length := by rw [he]; simp
  have hsn : ∀ l : List (List (Int × Int)), 0 ≤ sumC cO l := sumC_nonneg cO_nonneg
  obtain ⟨r, hr⟩ : ∃ r, r = cut left (l.length + sumC cO l) := ⟨_, rfl⟩
  rw [← hr]
  have hr2 : r = cut (left - es.length) (sumC cO l) := by rw [hr, hl1, cut, cut]; congr 1 <;> (try apply propext) <;> omega
  clear hr
  cbv
  repeat' first | with_reducible rfl | with_reducible refine And.intro ?_ ?_ | ((with_reducible intro hcc); first | (cases hcc; done) | skip) | ((with_reducible first | show goC _ _ _ _ _ _ _ _ | show goOps _ _ _ _ _ | show goD _ _ _ _ _ _); cbv) | ((with_reducible show okWr _ _ = _); rfl) | ((with_reducible first | refine hA.fin_pl _ _ _ ?_ | refine hA.len _ _ _ _ _ fun z hz hb => ?_ | refine hA.off _ _ _ _ fun b hb => ?_); cbv) | ((with_reducible first | refine hA.sapp _ _ _ ⟨?_, fun sl hsl => ?_⟩); rotate_left; cbv) | (simp only [hA.lits]; cbv)
  all_goals try simp only [hA.ar, inR, n_cast, Int.ofNat_eq_natCast, Option.getD_some, Option.getD_none] at *
  all_goals try (first | omega | (have := hb trivial trivial trivial; omega) | (have : r = -1 := (by simp only [decide_eq_true_eq] at *; have := hsn l; rw [hr2]; unfold cut; split <;> omega); rw [this]; done))
  · refine hA.loopI (fun n s => ∃ (i lf : Int), 0 ≤ i ∧ n + i = es.length ∧ 0 ≤ lf ∧ lf ≤ 1048576 ∧ r = cut lf (sumC cO (l.drop i.toNat)) ∧
        s = ⟨[(5, .int i), (0, .e (.sl es)), (1, .int lf), (4, .int 0)], []⟩) es.length _
      (Weak.keep (env' := [(5, .int 0), (0, .e (.sl es)), (1, .int (left - z)), (4, .int 0)]) ⟨rfl, rfl, rfl, rfl, trivial⟩) ⟨0, left - z, by omega, by omega, by simp only [decide_eq_false_iff_not] at *; omega, by omega, (by rw [hr2, hz]; rfl), rfl⟩ ?_
    rintro n s K ⟨i, lf, h0, h1, h2, h3, h4, rfl⟩ hK
    clear hr2
    by_cases hin : (0 : Int) ≤ i ∧ i < es.length
    · obtain ⟨r1, e1, q1⟩ := row_at he hin
      obtain ⟨x1, hx1⟩ : ∃ x, x = r1.map orow := ⟨_, rfl⟩
      have e1 : es.getD i.toNat [] = [E.sl x1] := e1.trans (by rw [hx1])
      rw [sumC_drop q1] at h4
      obtain ⟨S, hS⟩ : ∃ S, S = sumC cO (l.drop (i.toNat + 1)) := ⟨_, rfl⟩
      have hS0 : 0 ≤ S := hS ▸ hsn _
      obtain ⟨c, hcost⟩ : ∃ c, c = cO r1 := ⟨_, rfl⟩
      have hc0 : 0 ≤ c := hcost ▸ cO_nonneg _
      have hc := ok172' r1 x1 hx1 lf ⟨h2, h3⟩
      rw [← hS, ← hcost] at h4
      rw [← hcost] at hc
      obtain ⟨u, hu⟩ : ∃ u, u = cut lf c := ⟨_, rfl⟩
      rw [← hu] at hc
      have e8 : (i + 1).toNat = i.toNat + 1 := by omega
      have g1 : u < 0 → r = -1 := fun a => by rw [h4]; unfold cut at hu ⊢; split at hu <;> split <;> omega
      have g2 : 0 ≤ u → r = cut u S ∧ u ≤ lf := fun a => by
        have hu2 : u = lf - c := by rw [hu] at a ⊢; unfold cut at a ⊢; split at a <;> split <;> omega
        refine ⟨?_, by omega⟩
        rw [h4, hu2]
        unfold cut
        rw [show lf - (c + S) = lf - c - S by omega]
      clear h4 hu hcost
      cbv
      repeat' first | with_reducible rfl | with_reducible refine And.intro ?_ ?_ | ((with_reducible intro hcc); first | (cases hcc; done) | skip) | ((with_reducible first | show goC _ _ _ _ _ _ _ _ | show goOps _ _ _ _ _ | show goD _ _ _ _ _ _); cbv) | ((with_reducible show okWr _ _ = _); rfl) | ((with_reducible first | refine callK_f hA hP hc ?_ ?_ ?_); exact rfl; exact rfl; cbv) | ((with_reducible refine hA.row es _ _ ⟨hin, fun row hrow => ?_⟩); rw [e1] at hrow; subst hrow; cbv) | ((with_reducible first | refine hA.fin_pl _ _ _ ?_ | refine hA.len _ _ _ _ _ fun z hz hb => ?_ | refine hA.off _ _ _ _ fun b hb => ?_); cbv) | ((with_reducible first | refine hA.sapp _ _ _ ⟨?_, fun sl hsl => ?_⟩); rotate_left; cbv) | (simp only [hA.lits]; cbv)
      all_goals try simp only [hA.ar, inR, n_cast, Int.ofNat_eq_natCast, Option.getD_some, Option.getD_none] at *
      all_goals first
        | omega
        | (clear hK g1 g2 he; simp at *; omega)
        | (rw [g1 (by clear hK g2; simp at *; omega)]; done)
        | (have hu0 : 0 ≤ u := (by clear hK; simp at *; omega)
           exact hK _ (n - 1) _ (by omega) (Weak.keep (env' := [(5, .int (i + 1)), (0, .e (.sl es)), (1, .int u), (4, .int 0)]) ⟨rfl, rfl, rfl, rfl, trivial⟩) ⟨i + 1, u, by omega, by omega, hu0, by have := (g2 hu0).2; omega, by rw [e8, ← hS]; exact (g2 hu0).1, rfl⟩)
        | (clear hK g1 g2 he; simp at *; omega)
        | (trace_state; fail)
    · have hd : l.drop i.toNat = [] := by rw [List.drop_eq_nil_iff]; omega
      rw [hd] at h4
      have h5 : r = lf := by rw [h4, sumC, cut, if_neg (by omega)]; omega
      clear h4 hK
      cbv
      repeat' first | with_reducible rfl | with_reducible refine And.intro ?_ ?_ | ((with_reducible intro hcc); first | (cases hcc; done) | skip) | ((with_reducible first | show goC _ _ _ _ _ _ _ _ | show goOps _ _ _ _ _ | show goD _ _ _ _ _ _); cbv) | ((with_reducible show okWr _ _ = _); rfl) | (exfalso; simp only [hA.lt, hA.sub, decide_eq_true_eq, decide_eq_false_iff_not, n_cast] at *; omega) | ((with_reducible first | refine hA.fin_pl _ _ _ ?_ | refine hA.len _ _ _ _ _ fun z hz hb => ?_ | refine hA.off _ _ _ _ fun b hb => ?_); cbv) | ((with_reducible first | refine hA.sapp _ _ _ ⟨?_, fun sl hsl => ?_⟩); rotate_left; cbv) | (simp only [hA.lits]; cbv)
      all_goals try simp only [hA.ar, inR, n_cast, Int.ofNat_eq_natCast, Option.getD_some, Option.getD_none] at *
      all_goals first
        | (rw [h5])
        | omega
        | (clear he; simp at *; omega)
        | (trace_state; fail))
set_option maxRecDepth 100000 in
set_option maxHeartbeats 1000000 in
theorem ok177 (l : List (List (Int × Int))) (es : List (List E)) (he : es = l.map orr) (hlen : es.length ≤ 1048576) (hb2 : ∀ d ∈ l, d.length ≤ 1048576) : Plain Try.prog 177 [.e (.sl es)] (.e (.sl es)) := okOf mixed p177 fun A P hA hP => (by
  have hl1 : es.length = l.length := by rw [he]; simp
  have hes : ∀ e ∈ es, e.length = 1 := by
    rw [he]
    intro e h
    obtain ⟨p, _, rfl⟩ := List.mem_map.1 h
    rfl
  cbv
  repeat' first | with_reducible rfl | with_reducible refine And.intro ?_ ?_ | ((with_reducible intro hcc); first | (cases hcc; done) | skip) | ((with_reducible first | show goC _ _ _ _ _ _ _ _ | show goOps _ _ _ _ _ | show goD _ _ _ _ _ _); cbv) | ((with_reducible show okWr _ _ = _); rfl) | ((with_reducible first | refine hA.fin_pl _ _ _ ?_ | refine hA.len _ _ _ _ _ fun z hz hb => ?_ | refine hA.off _ _ _ _ fun b hb => ?_ | refine hA.rep _ _ _ fun ds m hds hm => ?_ | refine hA.alt _ _ (Or.inl ?_)); cbv) | ((with_reducible first | refine hA.st _ _ _ _ _ ⟨?_, fun ds hds => ?_⟩ | refine hA.sapp _ _ _ ⟨?_, fun sl hsl => ?_⟩); rotate_left; cbv) | (simp only [hA.lits]; cbv)
  all_goals try simp only [hA.ar, inR, n_cast, Int.ofNat_eq_natCast, Option.getD_some, Option.getD_none] at *
  · omega
  · omega
  · refine hA.loopI (fun n s => ∃ (i : Int) (xs : List (List E)), 0 ≤ i ∧ n + i = es.length ∧ xs.length = es.length ∧ (∀ e ∈ xs, e.length = 1) ∧ (∀ j : Nat, j < i → xs[j]? = es[j]?) ∧
        s = ⟨[(4, .int i), (3, .bs 0 0 m 1), (2, .zs), (0, .e (.sl es))], [.box (xs.flatten.map .e)]⟩) es.length _
      (Weak.keep (env' := [(4, .int 0), (3, .bs 0 0 m 1), (2, .zs), (0, .e (.sl es))]) ⟨rfl, rfl, rfl, rfl, trivial⟩)
      ⟨0, List.replicate m [E.sl []], by omega, by omega, by simp; omega, by simp, fun j hj => by omega, by rw [← buf_zero, hm]; rw [hds]; rfl⟩ ?_
    rintro n s K ⟨i, xs, h0, h1, h2, h3, h4, rfl⟩ hK
    obtain ⟨ys, hys⟩ : ∃ ys, ys = xs.flatten.map D.e := ⟨_, rfl⟩
    have hyl : ys.length = xs.length * 1 := by rw [hys, List.length_map, flatten_len h3]
    rw [← hys]
    by_cases hin : (0 : Int) ≤ i ∧ i < es.length
    · obtain ⟨r1, e1, q1⟩ := row_at he hin
      obtain ⟨x1, hx1⟩ : ∃ x, x = r1.map orow := ⟨_, rfl⟩
      have e1 : es.getD i.toNat [] = [E.sl x1] := e1.trans (by rw [hx1])
      have hc := ok176 r1 x1 hx1 (by rw [hx1, List.length_map]; exact hb2 _ (List.mem_of_getElem? q1))
      have hrow0 : es[i.toNat]? = some (es.getD i.toNat []) := by
        have : i.toNat < es.length := by omega
        simp [List.getD, this]
      have hrl : (es.getD i.toNat []).length = 1 := hes _ (List.mem_of_getElem? hrow0)
      cbv
      repeat' first | with_reducible rfl | with_reducible refine And.intro ?_ ?_ | ((with_reducible intro hcc); first | (cases hcc; done) | skip) | ((with_reducible first | show goC _ _ _ _ _ _ _ _ | show goOps _ _ _ _ _ | show goD _ _ _ _ _ _); cbv) | ((with_reducible show okWr _ _ = _); rfl) | ((with_reducible first | refine callK_f hA hP hc ?_ ?_ ?_); exact rfl; exact rfl; cbv) | ((with_reducible refine hA.row es _ _ ⟨hin, fun row hrow => ?_⟩); rw [e1] at hrow; subst hrow; cbv) | ((with_reducible first | refine hA.fin_pl _ _ _ ?_ | refine hA.len _ _ _ _ _ fun z hz hb => ?_ | refine hA.off _ _ _ _ fun b hb => ?_ | refine hA.rep _ _ _ fun ds m hds hm => ?_ | refine hA.alt _ _ (Or.inl ?_)); cbv) | ((with_reducible first | refine hA.st _ _ _ _ _ ⟨?_, fun ds hds => ?_⟩ | refine hA.sapp _ _ _ ⟨?_, fun sl hsl => ?_⟩); rotate_left; cbv) | (simp only [hA.lits]; cbv)
      all_goals try simp only [hA.ar, inR, n_cast, Int.ofNat_eq_natCast, Option.getD_some, Option.getD_none] at *
      all_goals first
        | (show _ < (m : Int); omega)
        | omega
        | (clear hK h4 he; grind; done)
        | (have hb' : b = i.toNat * 1 := by omega
           refine hK _ (n - 1) _ (by omega) (Weak.keep (env' := [(4, .int (i + 1)), (3, .bs 0 0 m 1), (2, .zs), (0, .e (.sl es))]) ⟨rfl, rfl, rfl, rfl, trivial⟩)
             ⟨i + 1, xs.set i.toNat (es.getD i.toNat []), by omega, by omega, by simp [h2], fun e h => ?_, fun j hj => ?_, ?_⟩
           · rcases List.mem_or_eq_of_mem_set h with h | rfl
             · exact h3 e h
             · exact hrl
           · by_cases hji : (j : Int) < i
             · rw [List.getElem?_set_ne (show i.toNat ≠ j by omega)]; exact h4 j hji
             · have : j = i.toNat := by omega
               subst this
               rw [List.getElem?_set_self (show i.toNat < xs.length by omega), hrow0]
           · congr 2
             rw [hds, hys, hb']
             congr 1
             have q := buf_set (k := 1) (by omega) h3 (i := i.toNat) (show i.toNat < xs.length by omega) hrl
             rw [e1] at q ⊢
             exact q)
    · have hxe : xs = es := by
        refine List.ext_getElem? fun j => ?_
        by_cases hj : (j : Int) < i
        · exact h4 j hj
        · rw [List.getElem?_eq_none (by omega), List.getElem?_eq_none (by omega)]
      cbv
      repeat' first | with_reducible rfl | with_reducible refine And.intro ?_ ?_ | ((with_reducible intro hcc); first | (cases hcc; done) | skip) | ((with_reducible first | show goC _ _ _ _ _ _ _ _ | show goOps _ _ _ _ _ | show goD _ _ _ _ _ _); cbv) | ((with_reducible show okWr _ _ = _); rfl) | (exfalso; simp only [hA.lt, hA.sub, decide_eq_true_eq, decide_eq_false_iff_not, n_cast] at *; omega) | ((with_reducible refine hA.fin_bs (es := es) ?_ ?_ hes)) | ((with_reducible first | refine hA.fin_pl _ _ _ ?_ | refine hA.len _ _ _ _ _ fun z hz hb => ?_ | refine hA.off _ _ _ _ fun b hb => ?_ | refine hA.rep _ _ _ fun ds m hds hm => ?_ | refine hA.alt _ _ (Or.inl ?_)); cbv) | ((with_reducible first | refine hA.st _ _ _ _ _ ⟨?_, fun ds hds => ?_⟩ | refine hA.sapp _ _ _ ⟨?_, fun sl hsl => ?_⟩); rotate_left; cbv) | (simp only [hA.lits]; cbv)
      all_goals try simp only [hA.ar, inR, n_cast, Int.ofNat_eq_natCast, Option.getD_some, Option.getD_none] at *
      all_goals first
        | (rw [hys, hxe]; rfl)
        | omega
        | (clear hK h4 he; grind; done)
        | (trace_state; fail))
set_option maxRecDepth 100000 in
theorem ok185 (l l' : List (List (Int × Int))) (es fs : List (List E)) (he : es = l.map orr) (hf : fs = l'.map orr) : Plain Try.prog 185 [.e (.sl es), .e (.sl fs)] (.bool (decide (l = l'))) := okOf mixed p185 fun A P hA hP => (by
  obtain ⟨r, hr⟩ : ∃ r : Bool, r = decide (l = l') := ⟨_, rfl⟩
  rw [← hr]
  have hl1 : es.length = l.length := by rw [he]; simp
  have hl2 : fs.length = l'.length := by rw [hf]; simp
  cbv
  repeat' first | with_reducible rfl | with_reducible refine And.intro ?_ ?_ | ((with_reducible intro hcc); first | (cases hcc; done) | skip) | ((with_reducible first | show goC _ _ _ _ _ _ _ _ | show goOps _ _ _ _ _ | show goD _ _ _ _ _ _); cbv) | ((with_reducible show okWr _ _ = _); rfl) | ((with_reducible first | refine hA.fin_pl _ _ _ ?_ | refine hA.len _ _ _ _ _ fun z hz hb => ?_ | refine hA.off _ _ _ _ fun b hb => ?_); cbv) | ((with_reducible first | refine hA.sapp _ _ _ ⟨?_, fun sl hsl => ?_⟩); rotate_left; cbv) | (simp only [hA.lits]; cbv)
  all_goals try simp only [hA.ar, inR, n_cast, Int.ofNat_eq_natCast, Option.getD_some, Option.getD_none] at *
  · have : l ≠ l' := fun e => by subst e; clear hr; grind
    rw [hr]; simp [this]
  · have hzz : es.length = fs.length := by clear hr; grind
    refine hA.loopI (fun n s => ∃ i : Int, 0 ≤ i ∧ n + i = l.length ∧ (∀ j : Nat, j < i → l[j]? = l'[j]?) ∧ s = ⟨[(5, .int i), (4, .bool false), (0, .e (.sl es)), (1, .e (.sl fs))], []⟩) l.length _ (Weak.keep (env' := [(5, .int 0), (4, .bool false), (0, .e (.sl es)), (1, .e (.sl fs))]) ⟨rfl, rfl, rfl, rfl, trivial⟩) ⟨0, by omega, by omega, fun j hj => by omega, rfl⟩ ?_
    rintro n s K ⟨i, h0, h1, h2, rfl⟩ hK
    by_cases hin : (0 : Int) ≤ i ∧ i < es.length
    · have hin2 : (0 : Int) ≤ i ∧ i < fs.length := by omega
      obtain ⟨r1, e1, q1⟩ := row_at he hin
      obtain ⟨r2, e2, q2⟩ := row_at hf hin2
      obtain ⟨x1, hx1⟩ : ∃ x, x = r1.map orow := ⟨_, rfl⟩
      have e1 : es.getD i.toNat [] = [E.sl x1] := e1.trans (by rw [hx1])
      obtain ⟨x2, hx2⟩ : ∃ x, x = r2.map orow := ⟨_, rfl⟩
      have e2 : fs.getD i.toNat [] = [E.sl x2] := e2.trans (by rw [hx2])
      have hc := ok184 r1 r2 x1 x2 hx1 hx2
      obtain ⟨c, hcc⟩ : ∃ c : Bool, c = decide ((r1 : List (Int × Int)) = r2) := ⟨_, rfl⟩
      rw [← hcc] at hc
      have c1 : c = false → r = false := fun e => by
        rw [hr, decide_eq_false_iff_not]
        intro e'
        subst e'
        rw [q1] at q2
        cases q2
        rw [e] at hcc
        simp at hcc
      have c2 : c = true → l[i.toNat]? = l'[i.toNat]? := fun e => by
        rw [e] at hcc
        rw [q1, q2, of_decide_eq_true hcc.symm]
      clear hcc hr
      cbv
      repeat' first | with_reducible rfl | with_reducible refine And.intro ?_ ?_ | ((with_reducible intro hcc); first | (cases hcc; done) | skip) | ((with_reducible first | show goC _ _ _ _ _ _ _ _ | show goOps _ _ _ _ _ | show goD _ _ _ _ _ _); cbv) | ((with_reducible show okWr _ _ = _); rfl) | ((with_reducible first | refine callK_f hA hP hc ?_ ?_ ?_); exact rfl; exact rfl; cbv) | ((with_reducible refine hA.row es _ _ ⟨hin, fun row hrow => ?_⟩); rw [e1] at hrow; subst hrow; cbv) | ((with_reducible refine hA.row fs _ _ ⟨hin2, fun row hrow => ?_⟩); rw [e2] at hrow; subst hrow; cbv) | ((with_reducible first | refine hA.fin_pl _ _ _ ?_ | refine hA.len _ _ _ _ _ fun z hz hb => ?_ | refine hA.off _ _ _ _ fun b hb => ?_); cbv) | ((with_reducible first | refine hA.sapp _ _ _ ⟨?_, fun sl hsl => ?_⟩); rotate_left; cbv) | (simp only [hA.lits]; cbv)
      all_goals try simp only [hA.ar, inR, n_cast, Int.ofNat_eq_natCast, Option.getD_some, Option.getD_none] at *
      all_goals first
        | omega
        | (refine hK _ (n - 1) _ (by omega) (Weak.gc (env' := [(5, .int (i + 1)), (4, .bool false), (0, .e (.sl es)), (1, .e (.sl fs))]) ⟨rfl, rfl, rfl, rfl, trivial⟩ rfl) ⟨i + 1, by omega, by omega, fun j hj => ?_, rfl⟩
           by_cases hji : (j : Int) < i
           · exact h2 j hji
           · have : j = i.toNat := by omega
             rw [this]
             exact c2 (by clear hK h2; grind))
        | (clear hK h2 he hf e1 e2; grind; done)
        | (trace_state; fail)
    · have hll : l = l' := by
        refine List.ext_getElem? fun j => ?_
        by_cases hj : (j : Int) < i
        · exact h2 j hj
        · rw [List.getElem?_eq_none (by omega), List.getElem?_eq_none (by omega)]
      have hr2 : r = true := by rw [hr, hll]; simp
      clear hr
      cbv
      repeat' first | with_reducible rfl | with_reducible refine And.intro ?_ ?_ | ((with_reducible intro hcc); first | (cases hcc; done) | skip) | ((with_reducible first | show goC _ _ _ _ _ _ _ _ | show goOps _ _ _ _ _ | show goD _ _ _ _ _ _); cbv) | ((with_reducible show okWr _ _ = _); rfl) | (exfalso; simp only [hA.lt, hA.sub, decide_eq_true_eq, decide_eq_false_iff_not, n_cast] at *; omega) | ((with_reducible first | refine hA.fin_pl _ _ _ ?_ | refine hA.len _ _ _ _ _ fun z hz hb => ?_ | refine hA.off _ _ _ _ fun b hb => ?_); cbv) | ((with_reducible first | refine hA.sapp _ _ _ ⟨?_, fun sl hsl => ?_⟩); rotate_left; cbv) | (simp only [hA.lits]; cbv)
      all_goals try simp only [hA.ar, inR, n_cast, Int.ofNat_eq_natCast, Option.getD_some, Option.getD_none] at *
      all_goals first
        | (rw [hr2])
        | omega
        | (clear hK h2 hll he hf; grind; done)
        | (trace_state; fail))
end Go.Proofs.Ytfplalbognalkaa.Ab
/- The laws' helpers over plans: measured, copied, alike. -/
namespace Go.Proofs.Ytfplalbognalkaa.Ab
open Go
def cPd (d : Pd) : Int := cO d.Ex + cOS d.Exs
theorem cPd_nonneg (d : Pd) : 0 ≤ cPd d := by have := cO_nonneg d.Ex; have := cOS_nonneg d.Exs; unfold cPd; omega
def cPS (ns : List Pd) : Int := ns.length + sumC cPd ns
set_option maxRecDepth 100000 in
theorem ok140 (K1 T1 M1 : Int) (Ex1 : List (Int × Int)) (Exs1 : List (List (Int × Int))) (L1 R1 : Int) (x1 y1 : List (List E)) (hx1 : x1 = Ex1.map orow) (hy1 : y1 = Exs1.map orr) (left : Int) (h : 0 ≤ left ∧ left ≤ 1048576) : Plain Try.prog 140 [.agg [.int K1, .int T1, .int M1, .e (.sl x1), .e (.sl y1), .int L1, .int R1], .int left] (.int (cut left (cPd ⟨K1, T1, M1, Ex1, Exs1, L1, R1⟩))) := okOf mixed p140 fun A P hA hP => (by
  obtain ⟨r, hr⟩ : ∃ r, r = cut left (cPd ⟨K1, T1, M1, Ex1, Exs1, L1, R1⟩) := ⟨_, rfl⟩
  rw [← hr]
  obtain ⟨c, hc⟩ : ∃ c, c = cO Ex1 := ⟨_, rfl⟩
  obtain ⟨b, hb⟩ : ∃ b, b = left - c := ⟨_, rfl⟩
  have hc0 : 0 ≤ c := hc ▸ cO_nonneg _
  have hs := cOS_nonneg Exs1
  have hr2 : r = if b - cOS Exs1 < 0 then -1 else b - cOS Exs1 := by
    rw [hr, cut]
    show (if left - (cO Ex1 + cOS Exs1) < 0 then (-1 : Int) else left - (cO Ex1 + cOS Exs1)) = _
    rw [← hc, show left - (c + cOS Exs1) = b - cOS Exs1 by omega]
  have h30 := ok172' Ex1 x1 hx1 left h
  rw [← hc] at h30
  obtain ⟨u, hu⟩ : ∃ u, u = cut left c := ⟨_, rfl⟩
  rw [← hu] at h30
  rw [cut, ← hb] at hu
  clear hr hc
  by_cases hb0 : b < 0
  · have hrr : r = -1 := by rw [hr2]; split <;> omega
    rw [if_pos hb0] at hu
    have e1 : A.lt u 0 = true := by rw [hA.lt]; exact decide_eq_true (by omega)
    cbv
    repeat' first | with_reducible rfl | (simp only [e1]; cbv) | with_reducible refine And.intro ?_ ?_ | ((with_reducible intro hcc); first | (cases hcc; done) | skip) | ((with_reducible first | show goC _ _ _ _ _ _ _ _ | show goOps _ _ _ _ _ | show goD _ _ _ _ _ _); cbv) | ((with_reducible show okWr _ _ = _); rfl) | ((with_reducible first | refine callK_f hA hP h30 ?_ ?_ ?_); exact rfl; exact rfl; cbv) | ((with_reducible first | refine hA.fin_pl _ _ _ ?_); cbv) | (simp only [hA.lits]; cbv)
    all_goals try simp only [hA.ar, inR, n_cast, Int.ofNat_eq_natCast, Option.getD_some, Option.getD_none] at *
    all_goals first | omega | (rw [hrr]; done) | (trace_state; fail)
  · rw [if_neg hb0] at hu
    have e1 : A.lt u 0 = false := by rw [hA.lt]; exact decide_eq_false (by omega)
    have h311 : Plain Try.prog 173 [.e (.sl y1), .int u] (.int r) := by rw [hr2, hu]; exact ok173 Exs1 _ hy1 b (by omega)
    by_cases hr0 : r < 0
    · have e2 : A.lt r 0 = true := by rw [hA.lt]; exact decide_eq_true hr0
      have hrr : r = -1 := by rw [hr2] at hr0 ⊢; split at hr0 <;> split <;> omega
      cbv
      repeat' first | with_reducible rfl | (simp only [e1, e2]; cbv) | with_reducible refine And.intro ?_ ?_ | ((with_reducible intro hcc); first | (cases hcc; done) | skip) | ((with_reducible first | show goC _ _ _ _ _ _ _ _ | show goOps _ _ _ _ _ | show goD _ _ _ _ _ _); cbv) | ((with_reducible show okWr _ _ = _); rfl) | ((with_reducible first | refine callK_f hA hP h30 ?_ ?_ ?_ | refine callK_f hA hP h311 ?_ ?_ ?_); exact rfl; exact rfl; cbv) | ((with_reducible first | refine hA.fin_pl _ _ _ ?_); cbv) | (simp only [hA.lits]; cbv)
      all_goals try simp only [hA.ar, inR, n_cast, Int.ofNat_eq_natCast, Option.getD_some, Option.getD_none] at *
      all_goals first | omega | (rw [hrr]; done) | (trace_state; fail)
    · have e2 : A.lt r 0 = false := by rw [hA.lt]; exact decide_eq_false hr0
      cbv
      repeat' first | with_reducible rfl | (simp only [e1, e2]; cbv) | with_reducible refine And.intro ?_ ?_ | ((with_reducible intro hcc); first | (cases hcc; done) | skip) | ((with_reducible first | show goC _ _ _ _ _ _ _ _ | show goOps _ _ _ _ _ | show goD _ _ _ _ _ _); cbv) | ((with_reducible show okWr _ _ = _); rfl) | ((with_reducible first | refine callK_f hA hP h30 ?_ ?_ ?_ | refine callK_f hA hP h311 ?_ ?_ ?_); exact rfl; exact rfl; cbv) | ((with_reducible first | refine hA.fin_pl _ _ _ ?_); cbv) | (simp only [hA.lits]; cbv)
      all_goals try simp only [hA.ar, inR, n_cast, Int.ofNat_eq_natCast, Option.getD_some, Option.getD_none] at *
      all_goals first | omega | rfl | (trace_state; fail))
set_option maxRecDepth 100000 in
theorem ok80 (l : List (Pd)) (es : List (List E)) (he : es = l.map pdr) (left : Int) (h : 0 ≤ left ∧ left ≤ 1048576) : Plain Try.prog 80 [.e (.sl es), .int left] (.int (cut left (l.length + sumC cPd l))) := okOf mixed p80 fun A P hA hP => (by
  have hl1 : es.length = l.length := by rw [he]; simp
  have hsn : ∀ l : List (Pd), 0 ≤ sumC cPd l := sumC_nonneg cPd_nonneg
  obtain ⟨r, hr⟩ : ∃ r, r = cut left (l.length + sumC cPd l) := ⟨_, rfl⟩
  rw [← hr]
  have hr2 : r = cut (left - es.length) (sumC cPd l) := by rw [hr, hl1, cut, cut]; congr 1 <;> (try apply propext) <;> omega
  clear hr
  cbv
  repeat' first | with_reducible rfl | with_reducible refine And.intro ?_ ?_ | ((with_reducible intro hcc); first | (cases hcc; done) | skip) | ((with_reducible first | show goC _ _ _ _ _ _ _ _ | show goOps _ _ _ _ _ | show goD _ _ _ _ _ _); cbv) | ((with_reducible show okWr _ _ = _); rfl) | ((with_reducible first | refine hA.fin_pl _ _ _ ?_ | refine hA.len _ _ _ _ _ fun z hz hb => ?_ | refine hA.off _ _ _ _ fun b hb => ?_); cbv) | ((with_reducible first | refine hA.sapp _ _ _ ⟨?_, fun sl hsl => ?_⟩); rotate_left; cbv) | (simp only [hA.lits]; cbv)
  all_goals try simp only [hA.ar, inR, n_cast, Int.ofNat_eq_natCast, Option.getD_some, Option.getD_none] at *
  all_goals try (first | omega | (have := hb trivial trivial trivial; omega) | (have : r = -1 := (by simp only [decide_eq_true_eq] at *; have := hsn l; rw [hr2]; unfold cut; split <;> omega); rw [this]; done))
  · refine hA.loopI (fun n s => ∃ (i lf : Int), 0 ≤ i ∧ n + i = es.length ∧ 0 ≤ lf ∧ lf ≤ 1048576 ∧ r = cut lf (sumC cPd (l.drop i.toNat)) ∧
        s = ⟨[(5, .int i), (0, .e (.sl es)), (1, .int lf), (4, .int 0)], []⟩) es.length _
      (Weak.keep (env' := [(5, .int 0), (0, .e (.sl es)), (1, .int (left - z)), (4, .int 0)]) ⟨rfl, rfl, rfl, rfl, trivial⟩) ⟨0, left - z, by omega, by omega, by simp only [decide_eq_false_iff_not] at *; omega, by omega, (by rw [hr2, hz]; rfl), rfl⟩ ?_
    rintro n s K ⟨i, lf, h0, h1, h2, h3, h4, rfl⟩ hK
    clear hr2
    by_cases hin : (0 : Int) ≤ i ∧ i < es.length
    · obtain ⟨⟨K1, T1, M1, Ex1, Exs1, L1, R1⟩, e1, q1⟩ := row_at he hin
      obtain ⟨x1, hx1⟩ : ∃ x, x = Ex1.map orow := ⟨_, rfl⟩
      obtain ⟨y1, hy1⟩ : ∃ x, x = Exs1.map orr := ⟨_, rfl⟩
      have e1 : es.getD i.toNat [] = [E.int K1, E.int T1, E.int M1, E.sl x1, E.sl y1, E.int L1, E.int R1] := e1.trans (by rw [hx1, hy1])
      rw [sumC_drop q1] at h4
      obtain ⟨S, hS⟩ : ∃ S, S = sumC cPd (l.drop (i.toNat + 1)) := ⟨_, rfl⟩
      have hS0 : 0 ≤ S := hS ▸ hsn _
      obtain ⟨c, hcost⟩ : ∃ c, c = cPd ⟨K1, T1, M1, Ex1, Exs1, L1, R1⟩ := ⟨_, rfl⟩
      have hc0 : 0 ≤ c := hcost ▸ cPd_nonneg _
      have hc := ok140 K1 T1 M1 Ex1 Exs1 L1 R1 x1 y1 hx1 hy1 lf ⟨h2, h3⟩
      rw [← hS, ← hcost] at h4
      rw [← hcost] at hc
      obtain ⟨u, hu⟩ : ∃ u, u = cut lf c := ⟨_, rfl⟩
      rw [← hu] at hc
      have e8 : (i + 1).toNat = i.toNat + 1 := by omega
      have g1 : u < 0 → r = -1 := fun a => by rw [h4]; unfold cut at hu ⊢; split at hu <;> split <;> omega
      have g2 : 0 ≤ u → r = cut u S ∧ u ≤ lf := fun a => by
        have hu2 : u = lf - c := by rw [hu] at a ⊢; unfold cut at a ⊢; split at a <;> split <;> omega
        refine ⟨?_, by omega⟩
        rw [h4, hu2]
        unfold cut
        rw [show lf - (c + S) = lf - c - S by omega]
      clear h4 hu hcost
      cbv
      repeat' first | with_reducible rfl | with_reducible refine And.intro ?_ ?_ | ((with_reducible intro hcc); first | (cases hcc; done) | skip) | ((with_reducible first | show goC _ _ _ _ _ _ _ _ | show goOps _ _ _ _ _ | show goD _ _ _ _ _ _); cbv) | ((with_reducible show okWr _ _ = _); rfl) | ((with_reducible first | refine callK_f hA hP hc ?_ ?_ ?_); exact rfl; exact rfl; cbv) | ((with_reducible refine hA.row es _ _ ⟨hin, fun row hrow => ?_⟩); rw [e1] at hrow; subst hrow; cbv) | ((with_reducible first | refine hA.fin_pl _ _ _ ?_ | refine hA.len _ _ _ _ _ fun z hz hb => ?_ | refine hA.off _ _ _ _ fun b hb => ?_); cbv) | ((with_reducible first | refine hA.sapp _ _ _ ⟨?_, fun sl hsl => ?_⟩); rotate_left; cbv) | (simp only [hA.lits]; cbv)
      all_goals try simp only [hA.ar, inR, n_cast, Int.ofNat_eq_natCast, Option.getD_some, Option.getD_none] at *
      all_goals first
        | omega
        | (clear hK g1 g2 he; simp at *; omega)
        | (rw [g1 (by clear hK g2; simp at *; omega)]; done)
        | (have hu0 : 0 ≤ u := (by clear hK; simp at *; omega)
           exact hK _ (n - 1) _ (by omega) (Weak.keep (env' := [(5, .int (i + 1)), (0, .e (.sl es)), (1, .int u), (4, .int 0)]) ⟨rfl, rfl, rfl, rfl, trivial⟩) ⟨i + 1, u, by omega, by omega, hu0, by have := (g2 hu0).2; omega, by rw [e8, ← hS]; exact (g2 hu0).1, rfl⟩)
        | (clear hK g1 g2 he; simp at *; omega)
        | (trace_state; fail)
    · have hd : l.drop i.toNat = [] := by rw [List.drop_eq_nil_iff]; omega
      rw [hd] at h4
      have h5 : r = lf := by rw [h4, sumC, cut, if_neg (by omega)]; omega
      clear h4 hK
      cbv
      repeat' first | with_reducible rfl | with_reducible refine And.intro ?_ ?_ | ((with_reducible intro hcc); first | (cases hcc; done) | skip) | ((with_reducible first | show goC _ _ _ _ _ _ _ _ | show goOps _ _ _ _ _ | show goD _ _ _ _ _ _); cbv) | ((with_reducible show okWr _ _ = _); rfl) | (exfalso; simp only [hA.lt, hA.sub, decide_eq_true_eq, decide_eq_false_iff_not, n_cast] at *; omega) | ((with_reducible first | refine hA.fin_pl _ _ _ ?_ | refine hA.len _ _ _ _ _ fun z hz hb => ?_ | refine hA.off _ _ _ _ fun b hb => ?_); cbv) | ((with_reducible first | refine hA.sapp _ _ _ ⟨?_, fun sl hsl => ?_⟩); rotate_left; cbv) | (simp only [hA.lits]; cbv)
      all_goals try simp only [hA.ar, inR, n_cast, Int.ofNat_eq_natCast, Option.getD_some, Option.getD_none] at *
      all_goals first
        | (rw [h5])
        | omega
        | (clear he; simp at *; omega)
        | (trace_state; fail))
theorem ok35 (ns : List Pd) (x : List (List E)) (hx : x = ns.map pdr) (left : Int) (h : 0 ≤ left ∧ left ≤ 1048576) : Plain Try.prog 35 [.agg [.e (.sl x)], .int left] (.int (cut left (cPS ns))) := okOf mixed p35 fun A P hA hP => (by
  have h241 : Plain Try.prog 80 [.e (.sl x), .int left] (.int (cut left (cPS ns))) := ok80 ns _ hx left h
  obtain ⟨u, hu⟩ : ∃ u, u = cut left (cPS ns) := ⟨_, rfl⟩
  rw [← hu] at h241 ⊢
  have hu2 : u < 0 → u = -1 := fun a => by rw [hu, cut] at a ⊢; split at a <;> split <;> omega
  clear hu
  cbv
  repeat' first | with_reducible rfl | with_reducible refine And.intro ?_ ?_ | ((with_reducible intro hcc); first | (cases hcc; done) | skip) | ((with_reducible first | show goC _ _ _ _ _ _ _ _ | show goOps _ _ _ _ _ | show goD _ _ _ _ _ _); cbv) | ((with_reducible show okWr _ _ = _); rfl) | ((with_reducible first | refine callK_f hA hP h241 ?_ ?_ ?_); exact rfl; exact rfl; cbv) | ((with_reducible first | refine hA.fin_pl _ _ _ ?_); cbv) | (simp only [hA.lits]; cbv)
  all_goals try simp only [hA.ar, inR, n_cast, Int.ofNat_eq_natCast, Option.getD_some, Option.getD_none] at *
  all_goals first | rfl | omega | (rw [hu2 (by simp at *; omega)]) | (trace_state; fail))
set_option maxRecDepth 100000 in
theorem ok145 (K1 T1 M1 : Int) (Ex1 : List (Int × Int)) (Exs1 : List (List (Int × Int))) (L1 R1 : Int) (x1 y1 : List (List E)) (hx1 : x1 = Ex1.map orow) (hy1 : y1 = Exs1.map orr) (h1 : Ex1.length ≤ 1048576) (h2 : Exs1.length ≤ 1048576) (h3 : ∀ e ∈ Exs1, e.length ≤ 1048576) : Plain Try.prog 145 [.agg [.int K1, .int T1, .int M1, .e (.sl x1), .e (.sl y1), .int L1, .int R1]] (.agg [.int K1, .int T1, .int M1, .e (.sl x1), .e (.sl y1), .int L1, .int R1]) := okOf mixed p145 fun A P hA hP => (by
  have h32 := ok176 Ex1 x1 hx1 (by rw [hx1, List.length_map]; exact h1)
  have h314 := ok177 Exs1 y1 hy1 (by rw [hy1, List.length_map]; exact h2) h3
  cbv
  repeat' first | with_reducible rfl | with_reducible refine And.intro ?_ ?_ | ((with_reducible intro hcc); first | (cases hcc; done) | skip) | ((with_reducible first | show goC _ _ _ _ _ _ _ _ | show goOps _ _ _ _ _ | show goD _ _ _ _ _ _); cbv) | ((with_reducible show okWr _ _ = _); rfl) | ((with_reducible first | refine callK_f hA hP h32 ?_ ?_ ?_ | refine callK_f hA hP h314 ?_ ?_ ?_); exact rfl; exact rfl; cbv) | ((with_reducible first | refine hA.fin_pl _ _ _ ?_); cbv) | ((with_reducible first | refine hA.st _ _ _ _ _ ⟨?_, fun ds hds => ?_⟩); rotate_left; cbv) | (simp only [hA.lits]; cbv)
  all_goals try simp only [hA.ar, inR, n_cast, Int.ofNat_eq_natCast, Option.getD_some, Option.getD_none] at *
  )
set_option maxRecDepth 100000 in
set_option maxHeartbeats 1000000 in
theorem ok83 (l : List (Pd)) (es : List (List E)) (he : es = l.map pdr) (hlen : es.length ≤ 1048576) (hb2 : ∀ d ∈ l, d.Ex.length ≤ 1048576 ∧ d.Exs.length ≤ 1048576 ∧ ∀ e ∈ d.Exs, e.length ≤ 1048576) : Plain Try.prog 83 [.e (.sl es)] (.e (.sl es)) := okOf mixed p83 fun A P hA hP => (by
  have hl1 : es.length = l.length := by rw [he]; simp
  have hes : ∀ e ∈ es, e.length = 7 := by
    rw [he]
    intro e h
    obtain ⟨p, _, rfl⟩ := List.mem_map.1 h
    rfl
  cbv
  repeat' first | with_reducible rfl | with_reducible refine And.intro ?_ ?_ | ((with_reducible intro hcc); first | (cases hcc; done) | skip) | ((with_reducible first | show goC _ _ _ _ _ _ _ _ | show goOps _ _ _ _ _ | show goD _ _ _ _ _ _); cbv) | ((with_reducible show okWr _ _ = _); rfl) | ((with_reducible first | refine hA.fin_pl _ _ _ ?_ | refine hA.len _ _ _ _ _ fun z hz hb => ?_ | refine hA.off _ _ _ _ fun b hb => ?_ | refine hA.rep _ _ _ fun ds m hds hm => ?_ | refine hA.alt _ _ (Or.inl ?_)); cbv) | ((with_reducible first | refine hA.st _ _ _ _ _ ⟨?_, fun ds hds => ?_⟩ | refine hA.sapp _ _ _ ⟨?_, fun sl hsl => ?_⟩); rotate_left; cbv) | (simp only [hA.lits]; cbv)
  all_goals try simp only [hA.ar, inR, n_cast, Int.ofNat_eq_natCast, Option.getD_some, Option.getD_none] at *
  · omega
  · omega
  · refine hA.loopI (fun n s => ∃ (i : Int) (xs : List (List E)), 0 ≤ i ∧ n + i = es.length ∧ xs.length = es.length ∧ (∀ e ∈ xs, e.length = 7) ∧ (∀ j : Nat, j < i → xs[j]? = es[j]?) ∧
        s = ⟨[(4, .int i), (3, .bs 0 0 m 7), (2, .zs), (0, .e (.sl es))], [.box (xs.flatten.map .e)]⟩) es.length _
      (Weak.keep (env' := [(4, .int 0), (3, .bs 0 0 m 7), (2, .zs), (0, .e (.sl es))]) ⟨rfl, rfl, rfl, rfl, trivial⟩)
      ⟨0, List.replicate m [E.int 0, E.int 0, E.int 0, E.sl [], E.sl [], E.int 0, E.int 0], by omega, by omega, by simp; omega, by simp, fun j hj => by omega, by rw [← buf_zero, hm]; rw [hds]; rfl⟩ ?_
    rintro n s K ⟨i, xs, h0, h1, h2, h3, h4, rfl⟩ hK
    obtain ⟨ys, hys⟩ : ∃ ys, ys = xs.flatten.map D.e := ⟨_, rfl⟩
    have hyl : ys.length = xs.length * 7 := by rw [hys, List.length_map, flatten_len h3]
    rw [← hys]
    by_cases hin : (0 : Int) ≤ i ∧ i < es.length
    · obtain ⟨⟨K1, T1, M1, Ex1, Exs1, L1, R1⟩, e1, q1⟩ := row_at he hin
      obtain ⟨x1, hx1⟩ : ∃ x, x = Ex1.map orow := ⟨_, rfl⟩
      obtain ⟨y1, hy1⟩ : ∃ x, x = Exs1.map orr := ⟨_, rfl⟩
      have e1 : es.getD i.toNat [] = [E.int K1, E.int T1, E.int M1, E.sl x1, E.sl y1, E.int L1, E.int R1] := e1.trans (by rw [hx1, hy1])
      have hc := ok145 K1 T1 M1 Ex1 Exs1 L1 R1 x1 y1 hx1 hy1 (hb2 _ (List.mem_of_getElem? q1)).1 (hb2 _ (List.mem_of_getElem? q1)).2.1 (hb2 _ (List.mem_of_getElem? q1)).2.2
      have hrow0 : es[i.toNat]? = some (es.getD i.toNat []) := by
        have : i.toNat < es.length := by omega
        simp [List.getD, this]
      have hrl : (es.getD i.toNat []).length = 7 := hes _ (List.mem_of_getElem? hrow0)
      cbv
      repeat' first | with_reducible rfl | with_reducible refine And.intro ?_ ?_ | ((with_reducible intro hcc); first | (cases hcc; done) | skip) | ((with_reducible first | show goC _ _ _ _ _ _ _ _ | show goOps _ _ _ _ _ | show goD _ _ _ _ _ _); cbv) | ((with_reducible show okWr _ _ = _); rfl) | ((with_reducible first | refine callK_f hA hP hc ?_ ?_ ?_); exact rfl; exact rfl; cbv) | ((with_reducible refine hA.row es _ _ ⟨hin, fun row hrow => ?_⟩); rw [e1] at hrow; subst hrow; cbv) | ((with_reducible first | refine hA.fin_pl _ _ _ ?_ | refine hA.len _ _ _ _ _ fun z hz hb => ?_ | refine hA.off _ _ _ _ fun b hb => ?_ | refine hA.rep _ _ _ fun ds m hds hm => ?_ | refine hA.alt _ _ (Or.inl ?_)); cbv) | ((with_reducible first | refine hA.st _ _ _ _ _ ⟨?_, fun ds hds => ?_⟩ | refine hA.sapp _ _ _ ⟨?_, fun sl hsl => ?_⟩); rotate_left; cbv) | (simp only [hA.lits]; cbv)
      all_goals try simp only [hA.ar, inR, n_cast, Int.ofNat_eq_natCast, Option.getD_some, Option.getD_none] at *
      all_goals first
        | (show _ < (m : Int); omega)
        | omega
        | (clear hK h4 he; grind; done)
        | (have hb' : b = i.toNat * 7 := by omega
           refine hK _ (n - 1) _ (by omega) (Weak.keep (env' := [(4, .int (i + 1)), (3, .bs 0 0 m 7), (2, .zs), (0, .e (.sl es))]) ⟨rfl, rfl, rfl, rfl, trivial⟩)
             ⟨i + 1, xs.set i.toNat (es.getD i.toNat []), by omega, by omega, by simp [h2], fun e h => ?_, fun j hj => ?_, ?_⟩
           · rcases List.mem_or_eq_of_mem_set h with h | rfl
             · exact h3 e h
             · exact hrl
           · by_cases hji : (j : Int) < i
             · rw [List.getElem?_set_ne (show i.toNat ≠ j by omega)]; exact h4 j hji
             · have : j = i.toNat := by omega
               subst this
               rw [List.getElem?_set_self (show i.toNat < xs.length by omega), hrow0]
           · congr 2
             rw [hds, hys, hb']
             congr 1
             have q := buf_set (k := 7) (by omega) h3 (i := i.toNat) (show i.toNat < xs.length by omega) hrl
             rw [e1] at q ⊢
             exact q)
    · have hxe : xs = es := by
        refine List.ext_getElem? fun j => ?_
        by_cases hj : (j : Int) < i
        · exact h4 j hj
        · rw [List.getElem?_eq_none (by omega), List.getElem?_eq_none (by omega)]
      cbv
      repeat' first | with_reducible rfl | with_reducible refine And.intro ?_ ?_ | ((with_reducible intro hcc); first | (cases hcc; done) | skip) | ((with_reducible first | show goC _ _ _ _ _ _ _ _ | show goOps _ _ _ _ _ | show goD _ _ _ _ _ _); cbv) | ((with_reducible show okWr _ _ = _); rfl) | (exfalso; simp only [hA.lt, hA.sub, decide_eq_true_eq, decide_eq_false_iff_not, n_cast] at *; omega) | ((with_reducible refine hA.fin_bs (es := es) ?_ ?_ hes)) | ((with_reducible first | refine hA.fin_pl _ _ _ ?_ | refine hA.len _ _ _ _ _ fun z hz hb => ?_ | refine hA.off _ _ _ _ fun b hb => ?_ | refine hA.rep _ _ _ fun ds m hds hm => ?_ | refine hA.alt _ _ (Or.inl ?_)); cbv) | ((with_reducible first | refine hA.st _ _ _ _ _ ⟨?_, fun ds hds => ?_⟩ | refine hA.sapp _ _ _ ⟨?_, fun sl hsl => ?_⟩); rotate_left; cbv) | (simp only [hA.lits]; cbv)
      all_goals try simp only [hA.ar, inR, n_cast, Int.ofNat_eq_natCast, Option.getD_some, Option.getD_none] at *
      all_goals first
        | (rw [hys, hxe]; rfl)
        | omega
        | (clear hK h4 he; grind; done)
        | (trace_state; fail))
theorem ok37 (ns : List Pd) (x : List (List E)) (hx : x = ns.map pdr) (h1 : ns.length ≤ 1048576) (h2 : ∀ d ∈ ns, d.Ex.length ≤ 1048576 ∧ d.Exs.length ≤ 1048576 ∧ ∀ e ∈ d.Exs, e.length ≤ 1048576) : Plain Try.prog 37 [.agg [.e (.sl x)]] (.agg [.e (.sl x)]) := okOf mixed p37 fun A P hA hP => (by
  have h244 := ok83 ns x hx (by rw [hx, List.length_map]; exact h1) h2
  cbv
  repeat' first | with_reducible rfl | with_reducible refine And.intro ?_ ?_ | ((with_reducible intro hcc); first | (cases hcc; done) | skip) | ((with_reducible first | show goC _ _ _ _ _ _ _ _ | show goOps _ _ _ _ _ | show goD _ _ _ _ _ _); cbv) | ((with_reducible show okWr _ _ = _); rfl) | ((with_reducible first | refine callK_f hA hP h244 ?_ ?_ ?_); exact rfl; exact rfl; cbv) | ((with_reducible first | refine hA.fin_pl _ _ _ ?_); cbv) | ((with_reducible first | refine hA.st _ _ _ _ _ ⟨?_, fun ds hds => ?_⟩); rotate_left; cbv) | (simp only [hA.lits]; cbv)
  all_goals try simp only [hA.ar, inR, n_cast, Int.ofNat_eq_natCast, Option.getD_some, Option.getD_none] at *
  )
set_option maxRecDepth 100000 in
theorem ok148 (K1 T1 M1 : Int) (Ex1 : List (Int × Int)) (Exs1 : List (List (Int × Int))) (L1 R1 : Int) (x1 y1 : List (List E)) (hx1 : x1 = Ex1.map orow) (hy1 : y1 = Exs1.map orr) (K2 T2 M2 : Int) (Ex2 : List (Int × Int)) (Exs2 : List (List (Int × Int))) (L2 R2 : Int) (x2 y2 : List (List E)) (hx2 : x2 = Ex2.map orow) (hy2 : y2 = Exs2.map orr) :
    Plain Try.prog 148 [.agg [.int K1, .int T1, .int M1, .e (.sl x1), .e (.sl y1), .int L1, .int R1], .agg [.int K2, .int T2, .int M2, .e (.sl x2), .e (.sl y2), .int L2, .int R2]] (.bool (decide ((⟨K1, T1, M1, Ex1, Exs1, L1, R1⟩ : Pd) = ⟨K2, T2, M2, Ex2, Exs2, L2, R2⟩))) := okOf mixed p148 fun A P hA hP => (by
  have h34 := ok184 Ex1 Ex2 x1 x2 hx1 hx2
  have h320 := ok185 Exs1 Exs2 y1 y2 hy1 hy2
  obtain ⟨c, hc⟩ : ∃ c, c = decide (Ex1 = Ex2) := ⟨_, rfl⟩
  rw [← hc] at h34
  obtain ⟨d, hd⟩ : ∃ c, c = decide (Exs1 = Exs2) := ⟨_, rfl⟩
  rw [← hd] at h320
  obtain ⟨r, hr⟩ : ∃ r, r = decide ((⟨K1, T1, M1, Ex1, Exs1, L1, R1⟩ : Pd) = ⟨K2, T2, M2, Ex2, Exs2, L2, R2⟩) := ⟨_, rfl⟩
  rw [← hr]
  have hr2 : r = (decide (K1 = K2) && (decide (T1 = T2) && (decide (M1 = M2) && ((c && (d && (decide (L1 = L2) && decide (R1 = R2)))))))) := by rw [hr, hc, hd]; simp
  clear hr hc hd
  cbv
  repeat' first | with_reducible rfl | with_reducible refine And.intro ?_ ?_ | ((with_reducible intro hcc); first | (cases hcc; done) | skip) | ((with_reducible first | show goC _ _ _ _ _ _ _ _ | show goOps _ _ _ _ _ | show goD _ _ _ _ _ _); cbv) | ((with_reducible show okWr _ _ = _); rfl) | ((with_reducible first | refine callK_f hA hP h34 ?_ ?_ ?_ | refine callK_f hA hP h320 ?_ ?_ ?_); exact rfl; exact rfl; cbv) | ((with_reducible first | refine hA.fin_pl _ _ _ ?_); cbv) | (simp only [hA.lits]; cbv)
  all_goals try simp only [hA.ar, inR, n_cast, Int.ofNat_eq_natCast, Option.getD_some, Option.getD_none] at *
  all_goals first | rfl | (clear h34 h320; grind; done) | (clear h34 h320; simp at *; grind; done) | (trace_state; fail))
set_option maxRecDepth 100000 in
theorem ok85 (l l' : List (Pd)) (es fs : List (List E)) (he : es = l.map pdr) (hf : fs = l'.map pdr) : Plain Try.prog 85 [.e (.sl es), .e (.sl fs)] (.bool (decide (l = l'))) := okOf mixed p85 fun A P hA hP => (by
  obtain ⟨r, hr⟩ : ∃ r : Bool, r = decide (l = l') := ⟨_, rfl⟩
  rw [← hr]
  have hl1 : es.length = l.length := by rw [he]; simp
  have hl2 : fs.length = l'.length := by rw [hf]; simp
  cbv
  repeat' first | with_reducible rfl | with_reducible refine And.intro ?_ ?_ | ((with_reducible intro hcc); first | (cases hcc; done) | skip) | ((with_reducible first | show goC _ _ _ _ _ _ _ _ | show goOps _ _ _ _ _ | show goD _ _ _ _ _ _); cbv) | ((with_reducible show okWr _ _ = _); rfl) | ((with_reducible first | refine hA.fin_pl _ _ _ ?_ | refine hA.len _ _ _ _ _ fun z hz hb => ?_ | refine hA.off _ _ _ _ fun b hb => ?_); cbv) | ((with_reducible first | refine hA.sapp _ _ _ ⟨?_, fun sl hsl => ?_⟩); rotate_left; cbv) | (simp only [hA.lits]; cbv)
  all_goals try simp only [hA.ar, inR, n_cast, Int.ofNat_eq_natCast, Option.getD_some, Option.getD_none] at *
  · have : l ≠ l' := fun e => by subst e; clear hr; grind
    rw [hr]; simp [this]
  · have hzz : es.length = fs.length := by clear hr; grind
    refine hA.loopI (fun n s => ∃ i : Int, 0 ≤ i ∧ n + i = l.length ∧ (∀ j : Nat, j < i → l[j]? = l'[j]?) ∧ s = ⟨[(5, .int i), (4, .bool false), (0, .e (.sl es)), (1, .e (.sl fs))], []⟩) l.length _ (Weak.keep (env' := [(5, .int 0), (4, .bool false), (0, .e (.sl es)), (1, .e (.sl fs))]) ⟨rfl, rfl, rfl, rfl, trivial⟩) ⟨0, by omega, by omega, fun j hj => by omega, rfl⟩ ?_
    rintro n s K ⟨i, h0, h1, h2, rfl⟩ hK
    by_cases hin : (0 : Int) ≤ i ∧ i < es.length
    · have hin2 : (0 : Int) ≤ i ∧ i < fs.length := by omega
      obtain ⟨⟨K1, T1, M1, Ex1, Exs1, L1, R1⟩, e1, q1⟩ := row_at he hin
      obtain ⟨⟨K2, T2, M2, Ex2, Exs2, L2, R2⟩, e2, q2⟩ := row_at hf hin2
      obtain ⟨x1, hx1⟩ : ∃ x, x = Ex1.map orow := ⟨_, rfl⟩
      obtain ⟨y1, hy1⟩ : ∃ x, x = Exs1.map orr := ⟨_, rfl⟩
      have e1 : es.getD i.toNat [] = [E.int K1, E.int T1, E.int M1, E.sl x1, E.sl y1, E.int L1, E.int R1] := e1.trans (by rw [hx1, hy1])
      obtain ⟨x2, hx2⟩ : ∃ x, x = Ex2.map orow := ⟨_, rfl⟩
      obtain ⟨y2, hy2⟩ : ∃ x, x = Exs2.map orr := ⟨_, rfl⟩
      have e2 : fs.getD i.toNat [] = [E.int K2, E.int T2, E.int M2, E.sl x2, E.sl y2, E.int L2, E.int R2] := e2.trans (by rw [hx2, hy2])
      have hc := ok148 K1 T1 M1 Ex1 Exs1 L1 R1 x1 y1 hx1 hy1 K2 T2 M2 Ex2 Exs2 L2 R2 x2 y2 hx2 hy2
      obtain ⟨c, hcc⟩ : ∃ c : Bool, c = decide ((⟨K1, T1, M1, Ex1, Exs1, L1, R1⟩ : Pd) = ⟨K2, T2, M2, Ex2, Exs2, L2, R2⟩) := ⟨_, rfl⟩
      rw [← hcc] at hc
      have c1 : c = false → r = false := fun e => by
        rw [hr, decide_eq_false_iff_not]
        intro e'
        subst e'
        rw [q1] at q2
        cases q2
        rw [e] at hcc
        simp at hcc
      have c2 : c = true → l[i.toNat]? = l'[i.toNat]? := fun e => by
        rw [e] at hcc
        rw [q1, q2, of_decide_eq_true hcc.symm]
      clear hcc hr
      cbv
      repeat' first | with_reducible rfl | with_reducible refine And.intro ?_ ?_ | ((with_reducible intro hcc); first | (cases hcc; done) | skip) | ((with_reducible first | show goC _ _ _ _ _ _ _ _ | show goOps _ _ _ _ _ | show goD _ _ _ _ _ _); cbv) | ((with_reducible show okWr _ _ = _); rfl) | ((with_reducible first | refine callK_f hA hP hc ?_ ?_ ?_); exact rfl; exact rfl; cbv) | ((with_reducible refine hA.row es _ _ ⟨hin, fun row hrow => ?_⟩); rw [e1] at hrow; subst hrow; cbv) | ((with_reducible refine hA.row fs _ _ ⟨hin2, fun row hrow => ?_⟩); rw [e2] at hrow; subst hrow; cbv) | ((with_reducible first | refine hA.fin_pl _ _ _ ?_ | refine hA.len _ _ _ _ _ fun z hz hb => ?_ | refine hA.off _ _ _ _ fun b hb => ?_); cbv) | ((with_reducible first | refine hA.sapp _ _ _ ⟨?_, fun sl hsl => ?_⟩); rotate_left; cbv) | (simp only [hA.lits]; cbv)
      all_goals try simp only [hA.ar, inR, n_cast, Int.ofNat_eq_natCast, Option.getD_some, Option.getD_none] at *
      all_goals first
        | omega
        | (refine hK _ (n - 1) _ (by omega) (Weak.gc (env' := [(5, .int (i + 1)), (4, .bool false), (0, .e (.sl es)), (1, .e (.sl fs))]) ⟨rfl, rfl, rfl, rfl, trivial⟩ rfl) ⟨i + 1, by omega, by omega, fun j hj => ?_, rfl⟩
           by_cases hji : (j : Int) < i
           · exact h2 j hji
           · have : j = i.toNat := by omega
             rw [this]
             exact c2 (by clear hK h2; grind))
        | (clear hK h2 he hf e1 e2; grind; done)
        | (trace_state; fail)
    · have hll : l = l' := by
        refine List.ext_getElem? fun j => ?_
        by_cases hj : (j : Int) < i
        · exact h2 j hj
        · rw [List.getElem?_eq_none (by omega), List.getElem?_eq_none (by omega)]
      have hr2 : r = true := by rw [hr, hll]; simp
      clear hr
      cbv
      repeat' first | with_reducible rfl | with_reducible refine And.intro ?_ ?_ | ((with_reducible intro hcc); first | (cases hcc; done) | skip) | ((with_reducible first | show goC _ _ _ _ _ _ _ _ | show goOps _ _ _ _ _ | show goD _ _ _ _ _ _); cbv) | ((with_reducible show okWr _ _ = _); rfl) | (exfalso; simp only [hA.lt, hA.sub, decide_eq_true_eq, decide_eq_false_iff_not, n_cast] at *; omega) | ((with_reducible first | refine hA.fin_pl _ _ _ ?_ | refine hA.len _ _ _ _ _ fun z hz hb => ?_ | refine hA.off _ _ _ _ fun b hb => ?_); cbv) | ((with_reducible first | refine hA.sapp _ _ _ ⟨?_, fun sl hsl => ?_⟩); rotate_left; cbv) | (simp only [hA.lits]; cbv)
      all_goals try simp only [hA.ar, inR, n_cast, Int.ofNat_eq_natCast, Option.getD_some, Option.getD_none] at *
      all_goals first
        | (rw [hr2])
        | omega
        | (clear hK h2 hll he hf; grind; done)
        | (trace_state; fail))
theorem ok39 (ns ns' : List Pd) (x x' : List (List E)) (hx : x = ns.map pdr) (hx' : x' = ns'.map pdr) : Plain Try.prog 39 [.agg [.e (.sl x)], .agg [.e (.sl x')]] (.bool (decide (ns = ns'))) := okOf mixed p39 fun A P hA hP => (by
  have h246 := ok85 ns ns' x x' hx hx'
  obtain ⟨c, hc⟩ : ∃ c, c = decide (ns = ns') := ⟨_, rfl⟩
  rw [← hc] at h246 ⊢
  cases c
  all_goals
    cbv
    repeat' first | with_reducible rfl | with_reducible refine And.intro ?_ ?_ | ((with_reducible intro hcc); first | (cases hcc; done) | skip) | ((with_reducible first | show goC _ _ _ _ _ _ _ _ | show goOps _ _ _ _ _ | show goD _ _ _ _ _ _); cbv) | ((with_reducible show okWr _ _ = _); rfl) | ((with_reducible first | refine callK_f hA hP h246 ?_ ?_ ?_); exact rfl; exact rfl; cbv) | ((with_reducible first | refine hA.fin_pl _ _ _ ?_); cbv) | (simp only [hA.lits]; cbv)
    all_goals try simp only [hA.ar, inR, n_cast, Int.ofNat_eq_natCast, Option.getD_some, Option.getD_none] at *
    all_goals first | rfl | trivial | (trace_state; fail))
end Go.Proofs.Ytfplalbognalkaa.Ab
/- Sizes of tables. -/
namespace Go.Proofs.Ytfplalbognalkaa.Ab
open Go
theorem sz_in' {ts : List Tb} (h : cTS ts ≤ 1048576) : ts.length ≤ 1048576 ∧ ∀ t ∈ ts, t.2.2.length ≤ 1048576 ∧ ∀ r ∈ t.2.2, r.length ≤ 1048576 := by
  have h0 := sumC_nonneg cT_nonneg ts
  refine ⟨by unfold cTS at h; omega, fun t ht => ?_⟩
  have h1 := sz_row ht
  have h2 := sumC_nonneg cV_nonneg t.2.2
  unfold cT cSS at h1
  refine ⟨by omega, fun r hr => ?_⟩
  have h3 : (r.length : Int) ≤ _ := sumC_mem cV_nonneg hr
  omega
end Go.Proofs.Ytfplalbognalkaa.Ab
/- The law of PlanOk. -/
namespace Go.Proofs.Ytfplalbognalkaa.Ab
open Go
theorem plan_in {ns : List Pd} (h : cPS ns ≤ 1048576) : ns.length ≤ 1048576 ∧ ∀ d ∈ ns, d.Ex.length ≤ 1048576 ∧ d.Exs.length ≤ 1048576 ∧ ∀ e ∈ d.Exs, e.length ≤ 1048576 := by
  have h0 := sumC_nonneg cPd_nonneg ns
  refine ⟨by unfold cPS at h; omega, fun d hd => ?_⟩
  have h1 := sumC_mem cPd_nonneg hd
  have h2 : cPd d = cO d.Ex + cOS d.Exs := rfl
  have h3 := cO_nonneg d.Ex
  have h4 := cOS_nonneg d.Exs
  have h5 : cO d.Ex = d.Ex.length := rfl
  have h6 : cOS d.Exs = d.Exs.length + sumC cO d.Exs := rfl
  have h7 := sumC_nonneg cO_nonneg d.Exs
  unfold cPS at h
  refine ⟨by omega, by omega, fun e he => ?_⟩
  have h8 := sumC_mem cO_nonneg he
  have h9 : cO e = e.length := rfl
  omega
set_option maxRecDepth 100000 in
set_option maxHeartbeats 4000000 in
theorem ok7 (ns : List Pd) (x : List (List E)) (hx : x = ns.map pdr) (ts : List Tb) (xt : List (List E)) (hxt : xt = ts.map tbr) :
    Plain Try.prog 7 [.agg [.e (.sl x)], .agg [.e (.sl xt)]] (.bool true) := okOf mixed p7 fun A P hA hP => (by
  have h1 := ok35 ns x hx 1048576 (by omega)
  have n0 : 0 ≤ cPS ns := by have := sumC_nonneg cPd_nonneg ns; unfold cPS; omega
  by_cases c1 : (1048576 : Int) - cPS ns < 0
  · rw [show cut 1048576 (cPS ns) = -1 by unfold cut; rw [if_pos c1]] at h1
    cbv
    repeat' first | with_reducible rfl | with_reducible refine And.intro ?_ ?_ | ((with_reducible intro hcc); first | (cases hcc; done) | skip) | ((with_reducible first | show goC _ _ _ _ _ _ _ _ | show goOps _ _ _ _ _ | show goD _ _ _ _ _ _); cbv) | ((with_reducible show okWr _ _ = _); rfl) | ((with_reducible first | refine callK_f hA hP h1 ?_ ?_ ?_); exact rfl; exact rfl; cbv) | ((with_reducible first | refine hA.fin_pl _ _ _ ?_ | refine hA.gb0 true _ ?_ | refine hA.gb0 false _ ?_ | refine hA.gb _ _ fun vb hvb => ?_); cbv) | ((with_reducible first | refine hA.st _ _ _ _ _ ⟨?_, fun ds hds => ?_⟩); rotate_left; cbv) | (simp only [hA.lits]; cbv)
    all_goals try simp only [hA.ar, inR, n_cast, Int.ofNat_eq_natCast, Option.getD_some, Option.getD_none] at *
    all_goals grind
  · rw [show cut 1048576 (cPS ns) = 1048576 - cPS ns by unfold cut; rw [if_neg c1]] at h1
    obtain ⟨a, ha⟩ : ∃ a : Int, a = 1048576 - cPS ns := ⟨_, rfl⟩
    rw [← ha] at h1
    have e1 : A.lt a 0 = false := by rw [hA.lt]; exact decide_eq_false (by omega)
    have h2 := ok28 ts xt hxt a (by omega)
    by_cases c2 : a - cTS ts < 0
    · rw [show cut a (cTS ts) = -1 by unfold cut; rw [if_pos c2]] at h2
      cbv
      repeat' first | with_reducible rfl | (simp only [e1]; cbv) | with_reducible refine And.intro ?_ ?_ | ((with_reducible intro hcc); first | (cases hcc; done) | skip) | ((with_reducible first | show goC _ _ _ _ _ _ _ _ | show goOps _ _ _ _ _ | show goD _ _ _ _ _ _); cbv) | ((with_reducible show okWr _ _ = _); rfl) | ((with_reducible first | refine callK_f hA hP h1 ?_ ?_ ?_ | refine callK_f hA hP h2 ?_ ?_ ?_); exact rfl; exact rfl; cbv) | ((with_reducible first | refine hA.fin_pl _ _ _ ?_ | refine hA.gb0 true _ ?_ | refine hA.gb0 false _ ?_ | refine hA.gb _ _ fun vb hvb => ?_); cbv) | ((with_reducible first | refine hA.st _ _ _ _ _ ⟨?_, fun ds hds => ?_⟩); rotate_left; cbv) | (simp only [hA.lits]; cbv)
      all_goals try simp only [hA.ar, inR, n_cast, Int.ofNat_eq_natCast, Option.getD_some, Option.getD_none] at *
      all_goals grind
    · rw [show cut a (cTS ts) = a - cTS ts by unfold cut; rw [if_neg c2]] at h2
      obtain ⟨c, hc⟩ : ∃ c : Int, c = a - cTS ts := ⟨_, rfl⟩
      rw [← hc] at h2
      have e2 : A.lt c 0 = false := by rw [hA.lt]; exact decide_eq_false (by omega)
      have hsz : cTS ts ≤ 1048576 := by omega
      obtain ⟨s1, s2⟩ := sz_in' hsz
      obtain ⟨s3, s4⟩ := plan_in (ns := ns) (by omega)
      have hxl : x.length ≤ 1048576 := by rw [hx, List.length_map]; exact s3
      have h217 := ok37 ns x hx s3 s4
      have h37 := ok31 ts xt hxt s1 s2
      obtain ⟨w, hw⟩ : ∃ w, w = if planW ns ts < 0 then 0 else planW ns ts := ⟨_, rfl⟩
      obtain ⟨b, hb⟩ : ∃ b, b = !decide (planW ns ts < 0) := ⟨_, rfl⟩
      have h216 := ok36 ns x hx hxl s4 ts xt hxt hsz w b hw hb
      have h218 := ok38 ns x hx hxl s4 ts xt hxt hsz w b hw hb
      have h219 := ok39 ns ns x x hx hx
      rw [decide_eq_true rfl] at h219
      have h39 := ok34 ts ts xt xt hxt hxt
      rw [decide_eq_true rfl] at h39
      have e3 : A.eq w w = true := by rw [hA.eq]; exact decide_eq_true rfl
      clear hb hw s2 s4
      cases b
      all_goals
        cbv
        repeat' first | with_reducible rfl | (simp only [e1, e2, e3]; cbv) | with_reducible refine And.intro ?_ ?_ | ((with_reducible intro hcc); first | (cases hcc; done) | skip) | ((with_reducible first | show goC _ _ _ _ _ _ _ _ | show goOps _ _ _ _ _ | show goD _ _ _ _ _ _); cbv) | ((with_reducible show okWr _ _ = _); rfl) | ((with_reducible first | refine callK_f hA hP h1 ?_ ?_ ?_ | refine callK_f hA hP h2 ?_ ?_ ?_ | refine callK_f hA hP h217 ?_ ?_ ?_ | refine callK_f hA hP h37 ?_ ?_ ?_ | refine callK_f hA hP h216 ?_ ?_ ?_ | refine callK_f hA hP h218 ?_ ?_ ?_ | refine callK_f hA hP h219 ?_ ?_ ?_ | refine callK_f hA hP h39 ?_ ?_ ?_); exact rfl; exact rfl; cbv) | ((with_reducible first | refine hA.fin_pl _ _ _ ?_ | refine hA.gb0 true _ ?_ | refine hA.gb0 false _ ?_ | refine hA.gb _ _ fun vb hvb => ?_); cbv) | ((with_reducible first | refine hA.st _ _ _ _ _ ⟨?_, fun ds hds => ?_⟩); rotate_left; cbv) | (simp only [hA.lits]; cbv)
        all_goals try simp only [hA.ar, inR, n_cast, Int.ofNat_eq_natCast, Option.getD_some, Option.getD_none] at *
        all_goals first | rfl | trivial | (clear h1 h2 h217 h37 h216 h218 h219 h39 hx hxt; grind) | (trace_state; fail))
end Go.Proofs.Ytfplalbognalkaa.Ab
/- The law of PlanWork. -/
namespace Go.Proofs.Ytfplalbognalkaa.Ab
open Go
set_option maxRecDepth 100000 in
set_option maxHeartbeats 4000000 in
theorem ok40 (ns : List Pd) (x : List (List E)) (hx : x = ns.map pdr) (hxl : x.length ≤ 1048576) (hlen : ∀ d ∈ ns, d.Ex.length ≤ 1048576 ∧ d.Exs.length ≤ 1048576 ∧ ∀ e ∈ d.Exs, e.length ≤ 1048576) (ts : List Tb) (xt : List (List E)) (hxt : xt = ts.map tbr) (hsz : cTS ts ≤ 1048576) (hrl : ∀ t : Int, rowsOf ts t ≤ 1048576) :
    Plain Try.prog 40 [.agg [.e (.sl x)], .agg [.e (.sl xt)]] (.int (planWork ns ts)) := okOf mixed p40 fun A P hA hP => (by
  obtain ⟨w, hw⟩ : ∃ w, w = if planW ns ts < 0 then 0 else planW ns ts := ⟨_, rfl⟩
  obtain ⟨b, hb⟩ : ∃ b, b = !decide (planW ns ts < 0) := ⟨_, rfl⟩
  have h216 := ok36 ns x hx hxl hlen ts xt hxt hsz w b hw hb
  obtain ⟨res, hres⟩ : ∃ v, v = planWork ns ts := ⟨_, rfl⟩
  rw [← hres]
  rw [planWork] at hres
  by_cases hp : planW ns ts < 0
  · rw [if_pos hp] at hres
    rw [decide_eq_true hp] at hb
    subst hb; subst hres
    cbv
    repeat' first | with_reducible rfl | with_reducible refine And.intro ?_ ?_ | ((with_reducible intro hcc); first | (cases hcc; done) | skip) | ((with_reducible first | show goC _ _ _ _ _ _ _ _ | show goOps _ _ _ _ _ | show goD _ _ _ _ _ _); cbv) | ((with_reducible show okWr _ _ = _); rfl) | ((with_reducible first | refine callK_f hA hP h216 ?_ ?_ ?_); exact rfl; exact rfl; cbv) | ((with_reducible first | refine hA.fin_pl _ _ _ ?_ | refine hA.len _ _ _ _ _ fun z hz hb => ?_); cbv) | (simp only [hA.lits]; cbv)
    all_goals try simp only [hA.ar, inR, n_cast, Int.ofNat_eq_natCast, Option.getD_some, Option.getD_none] at *
    all_goals first | omega | rfl | trivial | (simp; done) | (trace_state; fail)
  rw [if_neg hp] at hres
  rw [decide_eq_false hp] at hb
  subst hb
  obtain ⟨⟨hdb, hord⟩, hscan⟩ := plan_scans (Int.not_lt.1 hp)
  have hin := ord_in hord
  have hn1 : 1 ≤ ns.length ∧ ns.length ≤ 2000 := by
    have := hord
    simp only [ordOk, Bool.and_eq_true, decide_eq_true_eq] at this
    exact this.1
  have hxn : x.length = ns.length := by rw [hx]; simp
  obtain ⟨xs, hxs⟩ : ∃ xs, xs = (szL ns (rowsOf ts)).map ir := ⟨_, rfl⟩
  have h248 := ok87 ns x hx (by omega) ts xt hxt hrl hin hscan xs hxs
  have hsl : xs.length = ns.length := by rw [hxs, List.length_map, szL_len]
  obtain ⟨ze, hze⟩ : ∃ z : Int, z = x.length := ⟨_, rfl⟩
  obtain ⟨zl, hzl⟩ : ∃ z, z = A.sub ze 1 := ⟨_, rfl⟩
  have hzl2 : zl = (ns.length : Int) - 1 := by rw [hzl, hA.sub]; omega
  have h247 := ok86 ns x hx hin (sz ns (rowsOf ts)) xs (fun j a b => ⟨sz_rng hin (rowsOf_nn ts) a b, ir_get hxs a (szL_get a b)⟩) hsl (zl.toNat + 1) zl 1 (by omega) (by omega) (by omega) (by omega) (by omega)
  rw [← hzl2] at hres
  rw [show wkF ns (sz ns (rowsOf ts)) (zl.toNat + 1) zl 1 = res from hres.symm] at h247
  clear hres hw hp hscan hin hxs hlen
  cbv
  repeat' first | with_reducible rfl | (simp only [← hzl]; cbv) | with_reducible refine And.intro ?_ ?_ | ((with_reducible intro hcc); first | (cases hcc; done) | skip) | ((with_reducible first | show goC _ _ _ _ _ _ _ _ | show goOps _ _ _ _ _ | show goD _ _ _ _ _ _); cbv) | ((with_reducible show okWr _ _ = _); rfl) | ((with_reducible first | refine callK_f hA hP h216 ?_ ?_ ?_ | refine callK_f hA hP h248 ?_ ?_ ?_ | refine callK_f hA hP h247 ?_ ?_ ?_); exact rfl; exact rfl; cbv) | ((with_reducible refine hA.len x _ _ _ _ fun z hz hb => ?_); (have e6 := hze.trans hz.symm); subst e6; cbv) | ((with_reducible first | refine hA.fin_pl _ _ _ ?_ | refine hA.len _ _ _ _ _ fun z hz hb => ?_); cbv) | (simp only [hA.lits]; cbv)
  all_goals try simp only [hA.ar, inR, n_cast, Int.ofNat_eq_natCast, Option.getD_some, Option.getD_none] at *
  all_goals first | omega | rfl | trivial | (simp; done) | (trace_state; fail))
theorem rows_le {ts : List Tb} (h : ∀ t ∈ ts, t.2.2.length ≤ 1048576) (t : Int) : rowsOf ts t ≤ 1048576 := by
  rw [rowsOf, List.getD]
  cases e : ts[t.toNat]? with
  | none => simp
  | some a => have := h a (List.mem_of_getElem? e); simp only [Option.getD_some]; omega
set_option maxRecDepth 100000 in
set_option maxHeartbeats 4000000 in
theorem ok8 (ns : List Pd) (x : List (List E)) (hx : x = ns.map pdr) (ts : List Tb) (xt : List (List E)) (hxt : xt = ts.map tbr) :
    Plain Try.prog 8 [.agg [.e (.sl x)], .agg [.e (.sl xt)]] (.bool true) := okOf mixed p8 fun A P hA hP => (by
  have h1 := ok35 ns x hx 1048576 (by omega)
  have n0 : 0 ≤ cPS ns := by have := sumC_nonneg cPd_nonneg ns; unfold cPS; omega
  by_cases c1 : (1048576 : Int) - cPS ns < 0
  · rw [show cut 1048576 (cPS ns) = -1 by unfold cut; rw [if_pos c1]] at h1
    cbv
    repeat' first | with_reducible rfl | with_reducible refine And.intro ?_ ?_ | ((with_reducible intro hcc); first | (cases hcc; done) | skip) | ((with_reducible first | show goC _ _ _ _ _ _ _ _ | show goOps _ _ _ _ _ | show goD _ _ _ _ _ _); cbv) | ((with_reducible show okWr _ _ = _); rfl) | ((with_reducible first | refine callK_f hA hP h1 ?_ ?_ ?_); exact rfl; exact rfl; cbv) | ((with_reducible first | refine hA.fin_pl _ _ _ ?_); cbv) | ((with_reducible first | refine hA.st _ _ _ _ _ ⟨?_, fun ds hds => ?_⟩); rotate_left; cbv) | (simp only [hA.lits]; cbv)
    all_goals try simp only [hA.ar, inR, n_cast, Int.ofNat_eq_natCast, Option.getD_some, Option.getD_none] at *
    all_goals grind
  · rw [show cut 1048576 (cPS ns) = 1048576 - cPS ns by unfold cut; rw [if_neg c1]] at h1
    obtain ⟨a, ha⟩ : ∃ a : Int, a = 1048576 - cPS ns := ⟨_, rfl⟩
    rw [← ha] at h1
    have e1 : A.lt a 0 = false := by rw [hA.lt]; exact decide_eq_false (by omega)
    have h2 := ok28 ts xt hxt a (by omega)
    by_cases c2 : a - cTS ts < 0
    · rw [show cut a (cTS ts) = -1 by unfold cut; rw [if_pos c2]] at h2
      cbv
      repeat' first | with_reducible rfl | (simp only [e1]; cbv) | with_reducible refine And.intro ?_ ?_ | ((with_reducible intro hcc); first | (cases hcc; done) | skip) | ((with_reducible first | show goC _ _ _ _ _ _ _ _ | show goOps _ _ _ _ _ | show goD _ _ _ _ _ _); cbv) | ((with_reducible show okWr _ _ = _); rfl) | ((with_reducible first | refine callK_f hA hP h1 ?_ ?_ ?_ | refine callK_f hA hP h2 ?_ ?_ ?_); exact rfl; exact rfl; cbv) | ((with_reducible first | refine hA.fin_pl _ _ _ ?_); cbv) | ((with_reducible first | refine hA.st _ _ _ _ _ ⟨?_, fun ds hds => ?_⟩); rotate_left; cbv) | (simp only [hA.lits]; cbv)
      all_goals try simp only [hA.ar, inR, n_cast, Int.ofNat_eq_natCast, Option.getD_some, Option.getD_none] at *
      all_goals grind
    · rw [show cut a (cTS ts) = a - cTS ts by unfold cut; rw [if_neg c2]] at h2
      obtain ⟨c, hc⟩ : ∃ c : Int, c = a - cTS ts := ⟨_, rfl⟩
      rw [← hc] at h2
      have e2 : A.lt c 0 = false := by rw [hA.lt]; exact decide_eq_false (by omega)
      have hsz : cTS ts ≤ 1048576 := by omega
      obtain ⟨s1, s2⟩ := sz_in' hsz
      obtain ⟨s3, s4⟩ := plan_in (ns := ns) (by omega)
      have hxl : x.length ≤ 1048576 := by rw [hx, List.length_map]; exact s3
      have h217 := ok37 ns x hx s3 s4
      have h37 := ok31 ts xt hxt s1 s2
      have hrl := rows_le (ts := ts) fun t ht => (s2 t ht).1
      have h220 := ok40 ns x hx hxl s4 ts xt hxt hsz hrl
      have h221 := ok41 ns x hx hxl s4 ts xt hxt hsz hrl
      obtain ⟨w, hw⟩ : ∃ w, w = planWork ns ts := ⟨_, rfl⟩
      rw [← hw] at h220 h221
      have h219 := ok39 ns ns x x hx hx
      rw [decide_eq_true rfl] at h219
      have h39 := ok34 ts ts xt xt hxt hxt
      rw [decide_eq_true rfl] at h39
      have e3 : A.eq w w = true := by rw [hA.eq]; exact decide_eq_true rfl
      clear hw s2 s4 hrl
      cbv
      repeat' first | with_reducible rfl | (simp only [e1, e2, e3]; cbv) | with_reducible refine And.intro ?_ ?_ | ((with_reducible intro hcc); first | (cases hcc; done) | skip) | ((with_reducible first | show goC _ _ _ _ _ _ _ _ | show goOps _ _ _ _ _ | show goD _ _ _ _ _ _); cbv) | ((with_reducible show okWr _ _ = _); rfl) | ((with_reducible first | refine callK_f hA hP h1 ?_ ?_ ?_ | refine callK_f hA hP h2 ?_ ?_ ?_ | refine callK_f hA hP h217 ?_ ?_ ?_ | refine callK_f hA hP h37 ?_ ?_ ?_ | refine callK_f hA hP h220 ?_ ?_ ?_ | refine callK_f hA hP h221 ?_ ?_ ?_ | refine callK_f hA hP h219 ?_ ?_ ?_ | refine callK_f hA hP h39 ?_ ?_ ?_); exact rfl; exact rfl; cbv) | ((with_reducible first | refine hA.fin_pl _ _ _ ?_); cbv) | ((with_reducible first | refine hA.st _ _ _ _ _ ⟨?_, fun ds hds => ?_⟩); rotate_left; cbv) | (simp only [hA.lits]; cbv)
      all_goals try simp only [hA.ar, inR, n_cast, Int.ofNat_eq_natCast, Option.getD_some, Option.getD_none] at *
      all_goals first | rfl | trivial | (clear h1 h2 h217 h37 h220 h221 h219 h39 hx hxt; grind) | (trace_state; fail))
end Go.Proofs.Ytfplalbognalkaa.Ab
