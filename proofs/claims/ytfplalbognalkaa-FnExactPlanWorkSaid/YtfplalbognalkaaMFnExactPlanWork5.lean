/- Plans: widths, by the specification. -/
import Derived.Test.YtfplalbognalkaaMFnExactPlanWork4
set_option linter.unusedSimpArgs false
set_option linter.unusedVariables false
set_option linter.unnecessarySimpa false
set_option linter.constructorNameAsVariable false
namespace Go.Proofs.Ytfplalbognalkaa.Ab
open Go
theorem tb_at {ts : List Tb} {xt : List (List E)} (hxt : xt = ts.map tbr) {T : Int} (h : 0 ≤ T ∧ T < xt.length) : ∃ ps px, xt.getD T.toNat [] = [E.str ps, E.int (colsOf ts T), E.sl px] := by
  obtain ⟨p, q1, q2⟩ := row_at hxt h
  exact ⟨p.1, p.2.2.map rsr, by rw [q1, colsOf]; simp [List.getD, q2]⟩
set_option maxRecDepth 100000 in
set_option maxHeartbeats 8000000 in
theorem ok243_1 (T M : Int) (Ex : List (Int × Int)) (Exs : List (List (Int × Int))) (L R : Int) (x y es xt : List (List E)) (hx : x = Ex.map orow) (hy : y = Exs.map orr) (ts : List Tb) (hxt : xt = ts.map tbr) (hxl : x.length ≤ 1048576) (hyl : y.length ≤ 1048576) (hel : ∀ e ∈ Exs, e.length ≤ 1048576)
    (i env l r : Int) (hi : 0 ≤ i ∧ i < es.length) (q1 : es.getD i.toNat [] = [E.int 1, E.int T, E.int M, E.sl x, E.sl y, E.int L, E.int R]) (he : 0 ≤ env ∧ env ≤ 200) (hl : -1 ≤ l ∧ l ≤ 200) (hr : -1 ≤ r ∧ r ≤ 200) (hct : ∀ t : Int, 0 ≤ t → t < ts.length → 0 ≤ colsOf ts t ∧ colsOf ts t ≤ 1000)
    : Plain Try.prog 82 [.agg [.e (.sl es)], .agg [.e (.sl xt)], .int i, .int env] (.int (if usedS ⟨1, T, M, Ex, Exs, L, R⟩ ts.length = false then -1 else if 0 < 0 then -1 else if 0 < 0 then -1 else ndS ⟨1, T, M, Ex, Exs, L, R⟩ (colsOf ts) env 0 0)) := okOf mixed p82 fun A P hA hP => (by
  obtain ⟨zy, hzy⟩ : ∃ z : Int, z = y.length := ⟨_, rfl⟩
  have hyE : y.length = Exs.length := by rw [hy]; simp
  have hxT : xt.length = ts.length := by rw [hxt]; simp
  have h289 := ok142 1 T M Ex Exs L R x y xt hx hy
  rw [hxT] at h289
  have h288 : Plain Try.prog 141 [.int 1] (.int 0) := ok141 1
  obtain ⟨u, hu⟩ : ∃ b, b = usedS ⟨1, T, M, Ex, Exs, L, R⟩ ts.length := ⟨_, rfl⟩
  rw [← hu] at h289 ⊢
  obtain ⟨res, hres⟩ : ∃ v : Int, v = if u = false then -1 else if 0 < 0 then -1 else if 0 < 0 then -1 else ndS ⟨1, T, M, Ex, Exs, L, R⟩ (colsOf ts) env 0 0 := ⟨_, rfl⟩
  rw [← hres]
  have lt0 : A.lt 0 0 = false := by rw [hA.lt]; rfl
  have lt1 : A.lt 1 0 = false := by rw [hA.lt]; rfl
  have k2 : A.eq 1 2 = false := by rw [hA.eq]; rfl
  have k3 : A.eq 1 3 = false := by rw [hA.eq]; rfl
  have k4 : A.eq 1 4 = false := by rw [hA.eq]; rfl
  have k5 : A.eq 1 5 = false := by rw [hA.eq]; rfl
  have k6 : A.eq 1 6 = false := by rw [hA.eq]; rfl
  have k7 : A.eq 1 7 = false := by rw [hA.eq]; rfl
  have k8 : A.eq 1 8 = false := by rw [hA.eq]; rfl
  have k10 : A.eq 1 10 = false := by rw [hA.eq]; rfl
  have l00 : A.lt 0 0 = false := by rw [hA.lt]; rfl
  cases u
  case false =>
    have hr2 : res = -1 := by rw [hres, if_pos rfl]
    clear hres hct he hl hr hu
    cbv
    repeat' first | with_reducible rfl | (simp only [lt0, lt1, k2, k3, k4, k5, k6, k7, k8, k10, l00]; cbv) | with_reducible refine And.intro ?_ ?_ | ((with_reducible intro hcc); first | (cases hcc; done) | skip) | ((with_reducible first | show goC _ _ _ _ _ _ _ _ | show goOps _ _ _ _ _ | show goD _ _ _ _ _ _); cbv) | ((with_reducible show okWr _ _ = _); rfl) | ((with_reducible refine hA.st [_, _, _, _, _, _, _] _ _ _ _ ⟨?_, fun ds hds => ?_⟩); rotate_left; (have hds : ds = [.int 1, .int T, .int M, .e (.sl x), .e (.sl y), .int L, .int R] := hds); subst hds; cbv) | ((with_reducible refine hA.row es i _ ⟨hi, fun row hrow => ?_⟩); rw [q1] at hrow; subst hrow; cbv) | ((with_reducible first | refine callK_f hA hP h288 ?_ ?_ ?_ | refine callK_f hA hP h289 ?_ ?_ ?_); exact rfl; exact rfl; cbv) | ((with_reducible show A.call _ _ _ _ false _ _ _ _); refine callK_no hA (.bool false) ?_; cbv) | ((with_reducible first | refine hA.fin_pl _ _ _ ?_ | refine hA.len _ _ _ _ _ fun z hz hb => ?_ | refine hA.off _ _ _ _ fun b hb => ?_ | refine hA.plus _ _ _ fun b hb => ?_ | refine hA.gb0 true _ ?_ | refine hA.gb0 false _ ?_ | refine hA.gb _ _ fun vb hvb => ?_); cbv) | ((with_reducible first | refine hA.st _ _ _ _ _ ⟨?_, fun ds hds => ?_⟩ | refine hA.sapp _ _ _ ⟨?_, fun sl hsl => ?_⟩); rotate_left; cbv) | (simp only [hA.lits]; cbv)
    all_goals try simp only [hA.ar, inR, n_cast, Int.ofNat_eq_natCast, Option.getD_some, Option.getD_none] at *
    all_goals first | omega | trivial | rfl | exact gg1 _ | exact gg2 _ | exact gg3 _ | exact gg4 _ | exact gg5 _ | exact gg6 _ _ | (simp; done) | (rw [hr2]; done) | (trace_state; fail)
  case true =>
  rw [if_neg (by simp)] at hres
  rw [if_neg (by omega)] at hres
  rw [if_neg (by omega)] at hres
  have hres : res = if 200 < env + 0 then -1 else 0 := by
    rw [hres, ndS]
    simp only [Int.reduceEq, if_true, if_false, true_and, false_and, and_true, or_true, true_or, or_false, false_or, Bool.false_eq_true, gt_iff_lt, ne_eq, not_true_eq_false, not_false_eq_true]
  obtain ⟨ew, hew⟩ : ∃ z, z = A.add env 0 := ⟨_, rfl⟩
  have hew2 : ew = env + 0 := by rw [hew, hA.add]
  rw [← hew2] at hres
  by_cases h200 : 200 < ew
  · have vw : A.lt 200 ew = true := by rw [hA.lt]; exact decide_eq_true h200
    rw [if_pos h200] at hres
    cbv
    repeat' first | with_reducible rfl | (simp only [lt0, lt1, k2, k3, k4, k5, k6, k7, k8, k10, l00, ← hew, vw]; cbv) | with_reducible refine And.intro ?_ ?_ | ((with_reducible intro hcc); first | (cases hcc; done) | skip) | ((with_reducible first | show goC _ _ _ _ _ _ _ _ | show goOps _ _ _ _ _ | show goD _ _ _ _ _ _); cbv) | ((with_reducible show okWr _ _ = _); rfl) | ((with_reducible refine hA.st [_, _, _, _, _, _, _] _ _ _ _ ⟨?_, fun ds hds => ?_⟩); rotate_left; (have hds : ds = [.int 1, .int T, .int M, .e (.sl x), .e (.sl y), .int L, .int R] := hds); subst hds; cbv) | ((with_reducible refine hA.row es i _ ⟨hi, fun row hrow => ?_⟩); rw [q1] at hrow; subst hrow; cbv) | ((with_reducible first | refine callK_f hA hP h288 ?_ ?_ ?_ | refine callK_f hA hP h289 ?_ ?_ ?_); exact rfl; exact rfl; cbv) | ((with_reducible show A.call _ _ _ _ false _ _ _ _); refine callK_no hA (.bool false) ?_; cbv) | ((with_reducible first | refine hA.fin_pl _ _ _ ?_ | refine hA.len _ _ _ _ _ fun z hz hb => ?_ | refine hA.off _ _ _ _ fun b hb => ?_ | refine hA.plus _ _ _ fun b hb => ?_ | refine hA.gb0 true _ ?_ | refine hA.gb0 false _ ?_ | refine hA.gb _ _ fun vb hvb => ?_); cbv) | ((with_reducible first | refine hA.st _ _ _ _ _ ⟨?_, fun ds hds => ?_⟩ | refine hA.sapp _ _ _ ⟨?_, fun sl hsl => ?_⟩); rotate_left; cbv) | (simp only [hA.lits]; cbv)
    all_goals try simp only [hA.ar, inR, n_cast, Int.ofNat_eq_natCast, Option.getD_some, Option.getD_none] at *
    all_goals first | omega | trivial | rfl | exact gg1 _ | exact gg2 _ | exact gg3 _ | exact gg4 _ | exact gg5 _ | exact gg6 _ _ | (simp; done) | (rw [hres]; done) | (trace_state; fail)
  · have vw : A.lt 200 ew = false := by rw [hA.lt]; exact decide_eq_false h200
    rw [if_neg h200] at hres
    cbv
    repeat' first | with_reducible rfl | (simp only [lt0, lt1, k2, k3, k4, k5, k6, k7, k8, k10, l00, ← hew, vw]; cbv) | with_reducible refine And.intro ?_ ?_ | ((with_reducible intro hcc); first | (cases hcc; done) | skip) | ((with_reducible first | show goC _ _ _ _ _ _ _ _ | show goOps _ _ _ _ _ | show goD _ _ _ _ _ _); cbv) | ((with_reducible show okWr _ _ = _); rfl) | ((with_reducible refine hA.st [_, _, _, _, _, _, _] _ _ _ _ ⟨?_, fun ds hds => ?_⟩); rotate_left; (have hds : ds = [.int 1, .int T, .int M, .e (.sl x), .e (.sl y), .int L, .int R] := hds); subst hds; cbv) | ((with_reducible refine hA.row es i _ ⟨hi, fun row hrow => ?_⟩); rw [q1] at hrow; subst hrow; cbv) | ((with_reducible first | refine callK_f hA hP h288 ?_ ?_ ?_ | refine callK_f hA hP h289 ?_ ?_ ?_); exact rfl; exact rfl; cbv) | ((with_reducible show A.call _ _ _ _ false _ _ _ _); refine callK_no hA (.bool false) ?_; cbv) | ((with_reducible first | refine hA.fin_pl _ _ _ ?_ | refine hA.len _ _ _ _ _ fun z hz hb => ?_ | refine hA.off _ _ _ _ fun b hb => ?_ | refine hA.plus _ _ _ fun b hb => ?_ | refine hA.gb0 true _ ?_ | refine hA.gb0 false _ ?_ | refine hA.gb _ _ fun vb hvb => ?_); cbv) | ((with_reducible first | refine hA.st _ _ _ _ _ ⟨?_, fun ds hds => ?_⟩ | refine hA.sapp _ _ _ ⟨?_, fun sl hsl => ?_⟩); rotate_left; cbv) | (simp only [hA.lits]; cbv)
    all_goals try simp only [hA.ar, inR, n_cast, Int.ofNat_eq_natCast, Option.getD_some, Option.getD_none] at *
    all_goals first | omega | trivial | rfl | exact gg1 _ | exact gg2 _ | exact gg3 _ | exact gg4 _ | exact gg5 _ | exact gg6 _ _ | (simp; done) | (rw [hres]; done) | (trace_state; fail))
set_option maxRecDepth 100000 in
set_option maxHeartbeats 8000000 in
theorem ok243_2 (T M : Int) (Ex : List (Int × Int)) (Exs : List (List (Int × Int))) (L R : Int) (x y es xt : List (List E)) (hx : x = Ex.map orow) (hy : y = Exs.map orr) (ts : List Tb) (hxt : xt = ts.map tbr) (hxl : x.length ≤ 1048576) (hyl : y.length ≤ 1048576) (hel : ∀ e ∈ Exs, e.length ≤ 1048576)
    (i env l r : Int) (hi : 0 ≤ i ∧ i < es.length) (q1 : es.getD i.toNat [] = [E.int 2, E.int T, E.int M, E.sl x, E.sl y, E.int L, E.int R]) (he : 0 ≤ env ∧ env ≤ 200) (hl : -1 ≤ l ∧ l ≤ 200) (hr : -1 ≤ r ∧ r ≤ 200) (hct : ∀ t : Int, 0 ≤ t → t < ts.length → 0 ≤ colsOf ts t ∧ colsOf ts t ≤ 1000)
    : Plain Try.prog 82 [.agg [.e (.sl es)], .agg [.e (.sl xt)], .int i, .int env] (.int (if usedS ⟨2, T, M, Ex, Exs, L, R⟩ ts.length = false then -1 else if 0 < 0 then -1 else if 0 < 0 then -1 else ndS ⟨2, T, M, Ex, Exs, L, R⟩ (colsOf ts) env 0 0)) := okOf mixed p82 fun A P hA hP => (by
  obtain ⟨zy, hzy⟩ : ∃ z : Int, z = y.length := ⟨_, rfl⟩
  have hyE : y.length = Exs.length := by rw [hy]; simp
  have hxT : xt.length = ts.length := by rw [hxt]; simp
  have h289 := ok142 2 T M Ex Exs L R x y xt hx hy
  rw [hxT] at h289
  have h288 : Plain Try.prog 141 [.int 2] (.int 0) := ok141 2
  obtain ⟨u, hu⟩ : ∃ b, b = usedS ⟨2, T, M, Ex, Exs, L, R⟩ ts.length := ⟨_, rfl⟩
  rw [← hu] at h289 ⊢
  obtain ⟨res, hres⟩ : ∃ v : Int, v = if u = false then -1 else if 0 < 0 then -1 else if 0 < 0 then -1 else ndS ⟨2, T, M, Ex, Exs, L, R⟩ (colsOf ts) env 0 0 := ⟨_, rfl⟩
  rw [← hres]
  have lt0 : A.lt 0 0 = false := by rw [hA.lt]; rfl
  have lt1 : A.lt 1 0 = false := by rw [hA.lt]; rfl
  have k2 : A.eq 2 2 = true := by rw [hA.eq]; rfl
  have k3 : A.eq 2 3 = false := by rw [hA.eq]; rfl
  have k4 : A.eq 2 4 = false := by rw [hA.eq]; rfl
  have k5 : A.eq 2 5 = false := by rw [hA.eq]; rfl
  have k6 : A.eq 2 6 = false := by rw [hA.eq]; rfl
  have k7 : A.eq 2 7 = false := by rw [hA.eq]; rfl
  have k8 : A.eq 2 8 = false := by rw [hA.eq]; rfl
  have k10 : A.eq 2 10 = false := by rw [hA.eq]; rfl
  have l00 : A.lt 0 0 = false := by rw [hA.lt]; rfl
  cases u
  case false =>
    have hr2 : res = -1 := by rw [hres, if_pos rfl]
    clear hres hct he hl hr hu
    cbv
    repeat' first | with_reducible rfl | (simp only [lt0, lt1, k2, k3, k4, k5, k6, k7, k8, k10, l00]; cbv) | with_reducible refine And.intro ?_ ?_ | ((with_reducible intro hcc); first | (cases hcc; done) | skip) | ((with_reducible first | show goC _ _ _ _ _ _ _ _ | show goOps _ _ _ _ _ | show goD _ _ _ _ _ _); cbv) | ((with_reducible show okWr _ _ = _); rfl) | ((with_reducible refine hA.st [_, _, _, _, _, _, _] _ _ _ _ ⟨?_, fun ds hds => ?_⟩); rotate_left; (have hds : ds = [.int 2, .int T, .int M, .e (.sl x), .e (.sl y), .int L, .int R] := hds); subst hds; cbv) | ((with_reducible refine hA.row es i _ ⟨hi, fun row hrow => ?_⟩); rw [q1] at hrow; subst hrow; cbv) | ((with_reducible first | refine callK_f hA hP h288 ?_ ?_ ?_ | refine callK_f hA hP h289 ?_ ?_ ?_); exact rfl; exact rfl; cbv) | ((with_reducible show A.call _ _ _ _ false _ _ _ _); refine callK_no hA (.bool false) ?_; cbv) | ((with_reducible first | refine hA.fin_pl _ _ _ ?_ | refine hA.len _ _ _ _ _ fun z hz hb => ?_ | refine hA.off _ _ _ _ fun b hb => ?_ | refine hA.plus _ _ _ fun b hb => ?_ | refine hA.gb0 true _ ?_ | refine hA.gb0 false _ ?_ | refine hA.gb _ _ fun vb hvb => ?_); cbv) | ((with_reducible first | refine hA.st _ _ _ _ _ ⟨?_, fun ds hds => ?_⟩ | refine hA.sapp _ _ _ ⟨?_, fun sl hsl => ?_⟩); rotate_left; cbv) | (simp only [hA.lits]; cbv)
    all_goals try simp only [hA.ar, inR, n_cast, Int.ofNat_eq_natCast, Option.getD_some, Option.getD_none] at *
    all_goals first | omega | trivial | rfl | exact gg1 _ | exact gg2 _ | exact gg3 _ | exact gg4 _ | exact gg5 _ | exact gg6 _ _ | (simp; done) | (rw [hr2]; done) | (trace_state; fail)
  case true =>
  rw [if_neg (by simp)] at hres
  rw [if_neg (by omega)] at hres
  rw [if_neg (by omega)] at hres
  have hT : (0 : Int) ≤ T ∧ T < xt.length := by
    simp only [usedS] at hu
    simp at hu
    omega
  obtain ⟨ps, px, q3⟩ := tb_at hxt hT
  have hc := hct T hT.1 (by omega)
  obtain ⟨cT, hcT⟩ : ∃ c, c = colsOf ts T := ⟨_, rfl⟩
  rw [← hcT] at q3 hc
  have hres : res = if 200 < env + cT then -1 else cT := by
    rw [hres, ndS]
    simp only [Int.reduceEq, if_true, if_false, ← hcT, true_and, false_and, and_true, or_true, true_or, or_false, false_or, Bool.false_eq_true, gt_iff_lt, ne_eq, not_true_eq_false, not_false_eq_true]
  clear hct hu
  obtain ⟨ew, hew⟩ : ∃ z, z = A.add env cT := ⟨_, rfl⟩
  have hew2 : ew = env + cT := by rw [hew, hA.add]
  rw [← hew2] at hres
  by_cases h200 : 200 < ew
  · have vw : A.lt 200 ew = true := by rw [hA.lt]; exact decide_eq_true h200
    rw [if_pos h200] at hres
    cbv
    repeat' first | with_reducible rfl | (simp only [lt0, lt1, k2, k3, k4, k5, k6, k7, k8, k10, l00, ← hew, vw]; cbv) | with_reducible refine And.intro ?_ ?_ | ((with_reducible intro hcc); first | (cases hcc; done) | skip) | ((with_reducible first | show goC _ _ _ _ _ _ _ _ | show goOps _ _ _ _ _ | show goD _ _ _ _ _ _); cbv) | ((with_reducible show okWr _ _ = _); rfl) | ((with_reducible refine hA.st [_, _, _, _, _, _, _] _ _ _ _ ⟨?_, fun ds hds => ?_⟩); rotate_left; (have hds : ds = [.int 2, .int T, .int M, .e (.sl x), .e (.sl y), .int L, .int R] := hds); subst hds; cbv) | ((with_reducible refine hA.row es i _ ⟨hi, fun row hrow => ?_⟩); rw [q1] at hrow; subst hrow; cbv) | ((with_reducible first | refine callK_f hA hP h288 ?_ ?_ ?_ | refine callK_f hA hP h289 ?_ ?_ ?_); exact rfl; exact rfl; cbv) | ((with_reducible show A.call _ _ _ _ false _ _ _ _); refine callK_no hA (.bool false) ?_; cbv) | ((with_reducible refine hA.row xt T _ ⟨hT, fun row hrow => ?_⟩); rw [q3] at hrow; subst hrow; cbv) | ((with_reducible first | refine hA.fin_pl _ _ _ ?_ | refine hA.len _ _ _ _ _ fun z hz hb => ?_ | refine hA.off _ _ _ _ fun b hb => ?_ | refine hA.plus _ _ _ fun b hb => ?_ | refine hA.gb0 true _ ?_ | refine hA.gb0 false _ ?_ | refine hA.gb _ _ fun vb hvb => ?_); cbv) | ((with_reducible first | refine hA.st _ _ _ _ _ ⟨?_, fun ds hds => ?_⟩ | refine hA.sapp _ _ _ ⟨?_, fun sl hsl => ?_⟩); rotate_left; cbv) | (simp only [hA.lits]; cbv)
    all_goals try simp only [hA.ar, inR, n_cast, Int.ofNat_eq_natCast, Option.getD_some, Option.getD_none] at *
    all_goals first | omega | trivial | rfl | exact gg1 _ | exact gg2 _ | exact gg3 _ | exact gg4 _ | exact gg5 _ | exact gg6 _ _ | (simp; done) | (rw [hres]; done) | (trace_state; fail)
  · have vw : A.lt 200 ew = false := by rw [hA.lt]; exact decide_eq_false h200
    rw [if_neg h200] at hres
    cbv
    repeat' first | with_reducible rfl | (simp only [lt0, lt1, k2, k3, k4, k5, k6, k7, k8, k10, l00, ← hew, vw]; cbv) | with_reducible refine And.intro ?_ ?_ | ((with_reducible intro hcc); first | (cases hcc; done) | skip) | ((with_reducible first | show goC _ _ _ _ _ _ _ _ | show goOps _ _ _ _ _ | show goD _ _ _ _ _ _); cbv) | ((with_reducible show okWr _ _ = _); rfl) | ((with_reducible refine hA.st [_, _, _, _, _, _, _] _ _ _ _ ⟨?_, fun ds hds => ?_⟩); rotate_left; (have hds : ds = [.int 2, .int T, .int M, .e (.sl x), .e (.sl y), .int L, .int R] := hds); subst hds; cbv) | ((with_reducible refine hA.row es i _ ⟨hi, fun row hrow => ?_⟩); rw [q1] at hrow; subst hrow; cbv) | ((with_reducible first | refine callK_f hA hP h288 ?_ ?_ ?_ | refine callK_f hA hP h289 ?_ ?_ ?_); exact rfl; exact rfl; cbv) | ((with_reducible show A.call _ _ _ _ false _ _ _ _); refine callK_no hA (.bool false) ?_; cbv) | ((with_reducible refine hA.row xt T _ ⟨hT, fun row hrow => ?_⟩); rw [q3] at hrow; subst hrow; cbv) | ((with_reducible first | refine hA.fin_pl _ _ _ ?_ | refine hA.len _ _ _ _ _ fun z hz hb => ?_ | refine hA.off _ _ _ _ fun b hb => ?_ | refine hA.plus _ _ _ fun b hb => ?_ | refine hA.gb0 true _ ?_ | refine hA.gb0 false _ ?_ | refine hA.gb _ _ fun vb hvb => ?_); cbv) | ((with_reducible first | refine hA.st _ _ _ _ _ ⟨?_, fun ds hds => ?_⟩ | refine hA.sapp _ _ _ ⟨?_, fun sl hsl => ?_⟩); rotate_left; cbv) | (simp only [hA.lits]; cbv)
    all_goals try simp only [hA.ar, inR, n_cast, Int.ofNat_eq_natCast, Option.getD_some, Option.getD_none] at *
    all_goals first | omega | trivial | rfl | exact gg1 _ | exact gg2 _ | exact gg3 _ | exact gg4 _ | exact gg5 _ | exact gg6 _ _ | (simp; done) | (rw [hres]; done) | (trace_state; fail))
set_option maxRecDepth 100000 in
set_option maxHeartbeats 8000000 in
theorem ok243_3 (T M : Int) (Ex : List (Int × Int)) (Exs : List (List (Int × Int))) (L R : Int) (x y es xt : List (List E)) (hx : x = Ex.map orow) (hy : y = Exs.map orr) (ts : List Tb) (hxt : xt = ts.map tbr) (hxl : x.length ≤ 1048576) (hyl : y.length ≤ 1048576) (hel : ∀ e ∈ Exs, e.length ≤ 1048576)
    (i env l r : Int) (hi : 0 ≤ i ∧ i < es.length) (q1 : es.getD i.toNat [] = [E.int 3, E.int T, E.int M, E.sl x, E.sl y, E.int L, E.int R]) (he : 0 ≤ env ∧ env ≤ 200) (hl : -1 ≤ l ∧ l ≤ 200) (hr : -1 ≤ r ∧ r ≤ 200) (hct : ∀ t : Int, 0 ≤ t → t < ts.length → 0 ≤ colsOf ts t ∧ colsOf ts t ≤ 1000)
    (hl1 : Plain Try.prog 82 [.agg [.e (.sl es)], .agg [.e (.sl xt)], .int L, .int env] (.int l))
    : Plain Try.prog 82 [.agg [.e (.sl es)], .agg [.e (.sl xt)], .int i, .int env] (.int (if usedS ⟨3, T, M, Ex, Exs, L, R⟩ ts.length = false then -1 else if l < 0 then -1 else if 0 < 0 then -1 else ndS ⟨3, T, M, Ex, Exs, L, R⟩ (colsOf ts) env l 0)) := okOf mixed p82 fun A P hA hP => (by
  obtain ⟨zy, hzy⟩ : ∃ z : Int, z = y.length := ⟨_, rfl⟩
  have hyE : y.length = Exs.length := by rw [hy]; simp
  have hxT : xt.length = ts.length := by rw [hxt]; simp
  have h289 := ok142 3 T M Ex Exs L R x y xt hx hy
  rw [hxT] at h289
  have h288 : Plain Try.prog 141 [.int 3] (.int 1) := ok141 3
  obtain ⟨u, hu⟩ : ∃ b, b = usedS ⟨3, T, M, Ex, Exs, L, R⟩ ts.length := ⟨_, rfl⟩
  rw [← hu] at h289 ⊢
  obtain ⟨res, hres⟩ : ∃ v : Int, v = if u = false then -1 else if l < 0 then -1 else if 0 < 0 then -1 else ndS ⟨3, T, M, Ex, Exs, L, R⟩ (colsOf ts) env l 0 := ⟨_, rfl⟩
  rw [← hres]
  have lt0 : A.lt 0 1 = true := by rw [hA.lt]; rfl
  have lt1 : A.lt 1 1 = false := by rw [hA.lt]; rfl
  have k2 : A.eq 3 2 = false := by rw [hA.eq]; rfl
  have k3 : A.eq 3 3 = true := by rw [hA.eq]; rfl
  have k4 : A.eq 3 4 = false := by rw [hA.eq]; rfl
  have k5 : A.eq 3 5 = false := by rw [hA.eq]; rfl
  have k6 : A.eq 3 6 = false := by rw [hA.eq]; rfl
  have k7 : A.eq 3 7 = false := by rw [hA.eq]; rfl
  have k8 : A.eq 3 8 = false := by rw [hA.eq]; rfl
  have k10 : A.eq 3 10 = false := by rw [hA.eq]; rfl
  have l00 : A.lt 0 0 = false := by rw [hA.lt]; rfl
  cases u
  case false =>
    have hr2 : res = -1 := by rw [hres, if_pos rfl]
    clear hres hct he hl hr hu
    cbv
    repeat' first | with_reducible rfl | (simp only [lt0, lt1, k2, k3, k4, k5, k6, k7, k8, k10, l00]; cbv) | with_reducible refine And.intro ?_ ?_ | ((with_reducible intro hcc); first | (cases hcc; done) | skip) | ((with_reducible first | show goC _ _ _ _ _ _ _ _ | show goOps _ _ _ _ _ | show goD _ _ _ _ _ _); cbv) | ((with_reducible show okWr _ _ = _); rfl) | ((with_reducible refine hA.st [_, _, _, _, _, _, _] _ _ _ _ ⟨?_, fun ds hds => ?_⟩); rotate_left; (have hds : ds = [.int 3, .int T, .int M, .e (.sl x), .e (.sl y), .int L, .int R] := hds); subst hds; cbv) | ((with_reducible refine hA.row es i _ ⟨hi, fun row hrow => ?_⟩); rw [q1] at hrow; subst hrow; cbv) | ((with_reducible first | refine callK_f hA hP h288 ?_ ?_ ?_ | refine callK_f hA hP h289 ?_ ?_ ?_); exact rfl; exact rfl; cbv) | ((with_reducible show A.call _ _ _ _ false _ _ _ _); refine callK_no hA (.bool false) ?_; cbv) | ((with_reducible first | refine hA.fin_pl _ _ _ ?_ | refine hA.len _ _ _ _ _ fun z hz hb => ?_ | refine hA.off _ _ _ _ fun b hb => ?_ | refine hA.plus _ _ _ fun b hb => ?_ | refine hA.gb0 true _ ?_ | refine hA.gb0 false _ ?_ | refine hA.gb _ _ fun vb hvb => ?_); cbv) | ((with_reducible first | refine hA.st _ _ _ _ _ ⟨?_, fun ds hds => ?_⟩ | refine hA.sapp _ _ _ ⟨?_, fun sl hsl => ?_⟩); rotate_left; cbv) | (simp only [hA.lits]; cbv)
    all_goals try simp only [hA.ar, inR, n_cast, Int.ofNat_eq_natCast, Option.getD_some, Option.getD_none] at *
    all_goals first | omega | trivial | rfl | exact gg1 _ | exact gg2 _ | exact gg3 _ | exact gg4 _ | exact gg5 _ | exact gg6 _ _ | (simp; done) | (rw [hr2]; done) | (trace_state; fail)
  case true =>
  rw [if_neg (by simp)] at hres
  by_cases hl0 : l < 0
  · have v0 : A.lt l 0 = true := by rw [hA.lt]; exact decide_eq_true hl0
    have hr2 : res = -1 := by rw [hres, if_pos hl0]
    clear hres hct he hl hr hu
    cbv
    repeat' first | with_reducible rfl | (simp only [lt0, lt1, k2, k3, k4, k5, k6, k7, k8, k10, l00, v0]; cbv) | with_reducible refine And.intro ?_ ?_ | ((with_reducible intro hcc); first | (cases hcc; done) | skip) | ((with_reducible first | show goC _ _ _ _ _ _ _ _ | show goOps _ _ _ _ _ | show goD _ _ _ _ _ _); cbv) | ((with_reducible show okWr _ _ = _); rfl) | ((with_reducible refine hA.st [_, _, _, _, _, _, _] _ _ _ _ ⟨?_, fun ds hds => ?_⟩); rotate_left; (have hds : ds = [.int 3, .int T, .int M, .e (.sl x), .e (.sl y), .int L, .int R] := hds); subst hds; cbv) | ((with_reducible refine hA.row es i _ ⟨hi, fun row hrow => ?_⟩); rw [q1] at hrow; subst hrow; cbv) | ((with_reducible first | refine callK_f hA hP h288 ?_ ?_ ?_ | refine callK_f hA hP h289 ?_ ?_ ?_); exact rfl; exact rfl; cbv) | ((with_reducible show A.call _ _ _ _ false _ _ _ _); refine callK_no hA (.bool false) ?_; cbv) | ((with_reducible first | refine callK_f hA hP hl1 ?_ ?_ ?_); exact rfl; exact rfl; cbv) | ((with_reducible first | refine hA.fin_pl _ _ _ ?_ | refine hA.len _ _ _ _ _ fun z hz hb => ?_ | refine hA.off _ _ _ _ fun b hb => ?_ | refine hA.plus _ _ _ fun b hb => ?_ | refine hA.gb0 true _ ?_ | refine hA.gb0 false _ ?_ | refine hA.gb _ _ fun vb hvb => ?_); cbv) | ((with_reducible first | refine hA.st _ _ _ _ _ ⟨?_, fun ds hds => ?_⟩ | refine hA.sapp _ _ _ ⟨?_, fun sl hsl => ?_⟩); rotate_left; cbv) | (simp only [hA.lits]; cbv)
    all_goals try simp only [hA.ar, inR, n_cast, Int.ofNat_eq_natCast, Option.getD_some, Option.getD_none] at *
    all_goals first | omega | trivial | rfl | exact gg1 _ | exact gg2 _ | exact gg3 _ | exact gg4 _ | exact gg5 _ | exact gg6 _ _ | (simp; done) | (rw [hr2]; done) | (trace_state; fail)
  rw [if_neg hl0] at hres
  have v0 : A.lt l 0 = false := by rw [hA.lt]; exact decide_eq_false hl0
  rw [if_neg (by omega)] at hres
  obtain ⟨s1, hs1⟩ : ∃ z, z = A.add env l := ⟨_, rfl⟩
  have hs1' : s1 = env + l := by rw [hs1, hA.add]
  have h31 := ok144 Ex x hx hxl s1
  obtain ⟨ex, hex⟩ : ∃ b, b = exOk Ex s1 := ⟨_, rfl⟩
  rw [← hex] at h31
  rw [hs1'] at hex
  have hres : res = if ex = false then -1 else if 200 < env + l then -1 else l := by
    rw [hres, ndS]
    simp only [Int.reduceEq, if_true, if_false, ← hex, true_and, false_and, and_true, or_true, true_or, or_false, false_or, Bool.false_eq_true, gt_iff_lt, ne_eq, not_true_eq_false, not_false_eq_true]
  cases ex
  · rw [if_pos rfl] at hres
    clear hct hu
    cbv
    repeat' first | with_reducible rfl | (simp only [lt0, lt1, k2, k3, k4, k5, k6, k7, k8, k10, l00, v0, ← hs1]; cbv) | with_reducible refine And.intro ?_ ?_ | ((with_reducible intro hcc); first | (cases hcc; done) | skip) | ((with_reducible first | show goC _ _ _ _ _ _ _ _ | show goOps _ _ _ _ _ | show goD _ _ _ _ _ _); cbv) | ((with_reducible show okWr _ _ = _); rfl) | ((with_reducible refine hA.st [_, _, _, _, _, _, _] _ _ _ _ ⟨?_, fun ds hds => ?_⟩); rotate_left; (have hds : ds = [.int 3, .int T, .int M, .e (.sl x), .e (.sl y), .int L, .int R] := hds); subst hds; cbv) | ((with_reducible refine hA.row es i _ ⟨hi, fun row hrow => ?_⟩); rw [q1] at hrow; subst hrow; cbv) | ((with_reducible first | refine callK_f hA hP h288 ?_ ?_ ?_ | refine callK_f hA hP h289 ?_ ?_ ?_); exact rfl; exact rfl; cbv) | ((with_reducible show A.call _ _ _ _ false _ _ _ _); refine callK_no hA (.bool false) ?_; cbv) | ((with_reducible first | refine callK_f hA hP hl1 ?_ ?_ ?_ | refine callK_f hA hP h31 ?_ ?_ ?_); exact rfl; exact rfl; cbv) | ((with_reducible first | refine hA.fin_pl _ _ _ ?_ | refine hA.len _ _ _ _ _ fun z hz hb => ?_ | refine hA.off _ _ _ _ fun b hb => ?_ | refine hA.plus _ _ _ fun b hb => ?_ | refine hA.gb0 true _ ?_ | refine hA.gb0 false _ ?_ | refine hA.gb _ _ fun vb hvb => ?_); cbv) | ((with_reducible first | refine hA.st _ _ _ _ _ ⟨?_, fun ds hds => ?_⟩ | refine hA.sapp _ _ _ ⟨?_, fun sl hsl => ?_⟩); rotate_left; cbv) | (simp only [hA.lits]; cbv)
    all_goals try simp only [hA.ar, inR, n_cast, Int.ofNat_eq_natCast, Option.getD_some, Option.getD_none] at *
    all_goals first | omega | trivial | rfl | exact gg1 _ | exact gg2 _ | exact gg3 _ | exact gg4 _ | exact gg5 _ | exact gg6 _ _ | (simp; done) | (rw [hres]; done) | (trace_state; fail)
  · rw [if_neg (by simp)] at hres
    clear hct hu
    have hew := hs1
    have hew2 := hs1'
    rw [← hew2] at hres
    by_cases h200 : 200 < s1
    · have vw : A.lt 200 s1 = true := by rw [hA.lt]; exact decide_eq_true h200
      rw [if_pos h200] at hres
      cbv
      repeat' first | with_reducible rfl | (simp only [lt0, lt1, k2, k3, k4, k5, k6, k7, k8, k10, l00, v0, ← hs1, ← hew, vw]; cbv) | with_reducible refine And.intro ?_ ?_ | ((with_reducible intro hcc); first | (cases hcc; done) | skip) | ((with_reducible first | show goC _ _ _ _ _ _ _ _ | show goOps _ _ _ _ _ | show goD _ _ _ _ _ _); cbv) | ((with_reducible show okWr _ _ = _); rfl) | ((with_reducible refine hA.st [_, _, _, _, _, _, _] _ _ _ _ ⟨?_, fun ds hds => ?_⟩); rotate_left; (have hds : ds = [.int 3, .int T, .int M, .e (.sl x), .e (.sl y), .int L, .int R] := hds); subst hds; cbv) | ((with_reducible refine hA.row es i _ ⟨hi, fun row hrow => ?_⟩); rw [q1] at hrow; subst hrow; cbv) | ((with_reducible first | refine callK_f hA hP h288 ?_ ?_ ?_ | refine callK_f hA hP h289 ?_ ?_ ?_); exact rfl; exact rfl; cbv) | ((with_reducible show A.call _ _ _ _ false _ _ _ _); refine callK_no hA (.bool false) ?_; cbv) | ((with_reducible first | refine callK_f hA hP hl1 ?_ ?_ ?_ | refine callK_f hA hP h31 ?_ ?_ ?_); exact rfl; exact rfl; cbv) | ((with_reducible first | refine hA.fin_pl _ _ _ ?_ | refine hA.len _ _ _ _ _ fun z hz hb => ?_ | refine hA.off _ _ _ _ fun b hb => ?_ | refine hA.plus _ _ _ fun b hb => ?_ | refine hA.gb0 true _ ?_ | refine hA.gb0 false _ ?_ | refine hA.gb _ _ fun vb hvb => ?_); cbv) | ((with_reducible first | refine hA.st _ _ _ _ _ ⟨?_, fun ds hds => ?_⟩ | refine hA.sapp _ _ _ ⟨?_, fun sl hsl => ?_⟩); rotate_left; cbv) | (simp only [hA.lits]; cbv)
      all_goals try simp only [hA.ar, inR, n_cast, Int.ofNat_eq_natCast, Option.getD_some, Option.getD_none] at *
      all_goals first | omega | trivial | rfl | exact gg1 _ | exact gg2 _ | exact gg3 _ | exact gg4 _ | exact gg5 _ | exact gg6 _ _ | (simp; done) | (rw [hres]; done) | (trace_state; fail)
    · have vw : A.lt 200 s1 = false := by rw [hA.lt]; exact decide_eq_false h200
      rw [if_neg h200] at hres
      cbv
      repeat' first | with_reducible rfl | (simp only [lt0, lt1, k2, k3, k4, k5, k6, k7, k8, k10, l00, v0, ← hs1, ← hew, vw]; cbv) | with_reducible refine And.intro ?_ ?_ | ((with_reducible intro hcc); first | (cases hcc; done) | skip) | ((with_reducible first | show goC _ _ _ _ _ _ _ _ | show goOps _ _ _ _ _ | show goD _ _ _ _ _ _); cbv) | ((with_reducible show okWr _ _ = _); rfl) | ((with_reducible refine hA.st [_, _, _, _, _, _, _] _ _ _ _ ⟨?_, fun ds hds => ?_⟩); rotate_left; (have hds : ds = [.int 3, .int T, .int M, .e (.sl x), .e (.sl y), .int L, .int R] := hds); subst hds; cbv) | ((with_reducible refine hA.row es i _ ⟨hi, fun row hrow => ?_⟩); rw [q1] at hrow; subst hrow; cbv) | ((with_reducible first | refine callK_f hA hP h288 ?_ ?_ ?_ | refine callK_f hA hP h289 ?_ ?_ ?_); exact rfl; exact rfl; cbv) | ((with_reducible show A.call _ _ _ _ false _ _ _ _); refine callK_no hA (.bool false) ?_; cbv) | ((with_reducible first | refine callK_f hA hP hl1 ?_ ?_ ?_ | refine callK_f hA hP h31 ?_ ?_ ?_); exact rfl; exact rfl; cbv) | ((with_reducible first | refine hA.fin_pl _ _ _ ?_ | refine hA.len _ _ _ _ _ fun z hz hb => ?_ | refine hA.off _ _ _ _ fun b hb => ?_ | refine hA.plus _ _ _ fun b hb => ?_ | refine hA.gb0 true _ ?_ | refine hA.gb0 false _ ?_ | refine hA.gb _ _ fun vb hvb => ?_); cbv) | ((with_reducible first | refine hA.st _ _ _ _ _ ⟨?_, fun ds hds => ?_⟩ | refine hA.sapp _ _ _ ⟨?_, fun sl hsl => ?_⟩); rotate_left; cbv) | (simp only [hA.lits]; cbv)
      all_goals try simp only [hA.ar, inR, n_cast, Int.ofNat_eq_natCast, Option.getD_some, Option.getD_none] at *
      all_goals first | omega | trivial | rfl | exact gg1 _ | exact gg2 _ | exact gg3 _ | exact gg4 _ | exact gg5 _ | exact gg6 _ _ | (simp; done) | (rw [hres]; done) | (trace_state; fail))
set_option maxRecDepth 100000 in
set_option maxHeartbeats 8000000 in
theorem ok243_4 (T M : Int) (Ex : List (Int × Int)) (Exs : List (List (Int × Int))) (L R : Int) (x y es xt : List (List E)) (hx : x = Ex.map orow) (hy : y = Exs.map orr) (ts : List Tb) (hxt : xt = ts.map tbr) (hxl : x.length ≤ 1048576) (hyl : y.length ≤ 1048576) (hel : ∀ e ∈ Exs, e.length ≤ 1048576)
    (i env l r : Int) (hi : 0 ≤ i ∧ i < es.length) (q1 : es.getD i.toNat [] = [E.int 4, E.int T, E.int M, E.sl x, E.sl y, E.int L, E.int R]) (he : 0 ≤ env ∧ env ≤ 200) (hl : -1 ≤ l ∧ l ≤ 200) (hr : -1 ≤ r ∧ r ≤ 200) (hct : ∀ t : Int, 0 ≤ t → t < ts.length → 0 ≤ colsOf ts t ∧ colsOf ts t ≤ 1000)
    (hl1 : Plain Try.prog 82 [.agg [.e (.sl es)], .agg [.e (.sl xt)], .int L, .int env] (.int l))
    : Plain Try.prog 82 [.agg [.e (.sl es)], .agg [.e (.sl xt)], .int i, .int env] (.int (if usedS ⟨4, T, M, Ex, Exs, L, R⟩ ts.length = false then -1 else if l < 0 then -1 else if 0 < 0 then -1 else ndS ⟨4, T, M, Ex, Exs, L, R⟩ (colsOf ts) env l 0)) := okOf mixed p82 fun A P hA hP => (by
  obtain ⟨zy, hzy⟩ : ∃ z : Int, z = y.length := ⟨_, rfl⟩
  have hyE : y.length = Exs.length := by rw [hy]; simp
  have hxT : xt.length = ts.length := by rw [hxt]; simp
  have h289 := ok142 4 T M Ex Exs L R x y xt hx hy
  rw [hxT] at h289
  have h288 : Plain Try.prog 141 [.int 4] (.int 1) := ok141 4
  obtain ⟨u, hu⟩ : ∃ b, b = usedS ⟨4, T, M, Ex, Exs, L, R⟩ ts.length := ⟨_, rfl⟩
  rw [← hu] at h289 ⊢
  obtain ⟨res, hres⟩ : ∃ v : Int, v = if u = false then -1 else if l < 0 then -1 else if 0 < 0 then -1 else ndS ⟨4, T, M, Ex, Exs, L, R⟩ (colsOf ts) env l 0 := ⟨_, rfl⟩
  rw [← hres]
  have lt0 : A.lt 0 1 = true := by rw [hA.lt]; rfl
  have lt1 : A.lt 1 1 = false := by rw [hA.lt]; rfl
  have k2 : A.eq 4 2 = false := by rw [hA.eq]; rfl
  have k3 : A.eq 4 3 = false := by rw [hA.eq]; rfl
  have k4 : A.eq 4 4 = true := by rw [hA.eq]; rfl
  have k5 : A.eq 4 5 = false := by rw [hA.eq]; rfl
  have k6 : A.eq 4 6 = false := by rw [hA.eq]; rfl
  have k7 : A.eq 4 7 = false := by rw [hA.eq]; rfl
  have k8 : A.eq 4 8 = false := by rw [hA.eq]; rfl
  have k10 : A.eq 4 10 = false := by rw [hA.eq]; rfl
  have l00 : A.lt 0 0 = false := by rw [hA.lt]; rfl
  cases u
  case false =>
    have hr2 : res = -1 := by rw [hres, if_pos rfl]
    clear hres hct he hl hr hu
    cbv
    repeat' first | with_reducible rfl | (simp only [lt0, lt1, k2, k3, k4, k5, k6, k7, k8, k10, l00]; cbv) | with_reducible refine And.intro ?_ ?_ | ((with_reducible intro hcc); first | (cases hcc; done) | skip) | ((with_reducible first | show goC _ _ _ _ _ _ _ _ | show goOps _ _ _ _ _ | show goD _ _ _ _ _ _); cbv) | ((with_reducible show okWr _ _ = _); rfl) | ((with_reducible refine hA.st [_, _, _, _, _, _, _] _ _ _ _ ⟨?_, fun ds hds => ?_⟩); rotate_left; (have hds : ds = [.int 4, .int T, .int M, .e (.sl x), .e (.sl y), .int L, .int R] := hds); subst hds; cbv) | ((with_reducible refine hA.row es i _ ⟨hi, fun row hrow => ?_⟩); rw [q1] at hrow; subst hrow; cbv) | ((with_reducible first | refine callK_f hA hP h288 ?_ ?_ ?_ | refine callK_f hA hP h289 ?_ ?_ ?_); exact rfl; exact rfl; cbv) | ((with_reducible show A.call _ _ _ _ false _ _ _ _); refine callK_no hA (.bool false) ?_; cbv) | ((with_reducible first | refine hA.fin_pl _ _ _ ?_ | refine hA.len _ _ _ _ _ fun z hz hb => ?_ | refine hA.off _ _ _ _ fun b hb => ?_ | refine hA.plus _ _ _ fun b hb => ?_ | refine hA.gb0 true _ ?_ | refine hA.gb0 false _ ?_ | refine hA.gb _ _ fun vb hvb => ?_); cbv) | ((with_reducible first | refine hA.st _ _ _ _ _ ⟨?_, fun ds hds => ?_⟩ | refine hA.sapp _ _ _ ⟨?_, fun sl hsl => ?_⟩); rotate_left; cbv) | (simp only [hA.lits]; cbv)
    all_goals try simp only [hA.ar, inR, n_cast, Int.ofNat_eq_natCast, Option.getD_some, Option.getD_none] at *
    all_goals first | omega | trivial | rfl | exact gg1 _ | exact gg2 _ | exact gg3 _ | exact gg4 _ | exact gg5 _ | exact gg6 _ _ | (simp; done) | (rw [hr2]; done) | (trace_state; fail)
  case true =>
  rw [if_neg (by simp)] at hres
  by_cases hl0 : l < 0
  · have v0 : A.lt l 0 = true := by rw [hA.lt]; exact decide_eq_true hl0
    have hr2 : res = -1 := by rw [hres, if_pos hl0]
    clear hres hct he hl hr hu
    cbv
    repeat' first | with_reducible rfl | (simp only [lt0, lt1, k2, k3, k4, k5, k6, k7, k8, k10, l00, v0]; cbv) | with_reducible refine And.intro ?_ ?_ | ((with_reducible intro hcc); first | (cases hcc; done) | skip) | ((with_reducible first | show goC _ _ _ _ _ _ _ _ | show goOps _ _ _ _ _ | show goD _ _ _ _ _ _); cbv) | ((with_reducible show okWr _ _ = _); rfl) | ((with_reducible refine hA.st [_, _, _, _, _, _, _] _ _ _ _ ⟨?_, fun ds hds => ?_⟩); rotate_left; (have hds : ds = [.int 4, .int T, .int M, .e (.sl x), .e (.sl y), .int L, .int R] := hds); subst hds; cbv) | ((with_reducible refine hA.row es i _ ⟨hi, fun row hrow => ?_⟩); rw [q1] at hrow; subst hrow; cbv) | ((with_reducible first | refine callK_f hA hP h288 ?_ ?_ ?_ | refine callK_f hA hP h289 ?_ ?_ ?_); exact rfl; exact rfl; cbv) | ((with_reducible show A.call _ _ _ _ false _ _ _ _); refine callK_no hA (.bool false) ?_; cbv) | ((with_reducible first | refine callK_f hA hP hl1 ?_ ?_ ?_); exact rfl; exact rfl; cbv) | ((with_reducible first | refine hA.fin_pl _ _ _ ?_ | refine hA.len _ _ _ _ _ fun z hz hb => ?_ | refine hA.off _ _ _ _ fun b hb => ?_ | refine hA.plus _ _ _ fun b hb => ?_ | refine hA.gb0 true _ ?_ | refine hA.gb0 false _ ?_ | refine hA.gb _ _ fun vb hvb => ?_); cbv) | ((with_reducible first | refine hA.st _ _ _ _ _ ⟨?_, fun ds hds => ?_⟩ | refine hA.sapp _ _ _ ⟨?_, fun sl hsl => ?_⟩); rotate_left; cbv) | (simp only [hA.lits]; cbv)
    all_goals try simp only [hA.ar, inR, n_cast, Int.ofNat_eq_natCast, Option.getD_some, Option.getD_none] at *
    all_goals first | omega | trivial | rfl | exact gg1 _ | exact gg2 _ | exact gg3 _ | exact gg4 _ | exact gg5 _ | exact gg6 _ _ | (simp; done) | (rw [hr2]; done) | (trace_state; fail)
  rw [if_neg hl0] at hres
  have v0 : A.lt l 0 = false := by rw [hA.lt]; exact decide_eq_false hl0
  rw [if_neg (by omega)] at hres
  obtain ⟨s1, hs1⟩ : ∃ z, z = A.add env l := ⟨_, rfl⟩
  have hs1' : s1 = env + l := by rw [hs1, hA.add]
  obtain ⟨al, hal⟩ : ∃ b, b = Exs.all fun e => exOk e s1 := ⟨_, rfl⟩
  have hres : res = if al = false then -1 else if 200 < env + zy then -1 else zy := by
    rw [hres, ndS]
    simp only [Int.reduceEq, if_true, if_false, ← hs1', ← hal, ← hyE, ← hzy, true_and, false_and, and_true, or_true, true_or, or_false, false_or, Bool.false_eq_true, gt_iff_lt, ne_eq, not_true_eq_false, not_false_eq_true]
  clear hct hu
  cbv
  repeat' first | with_reducible rfl | (simp only [lt0, lt1, k2, k3, k4, k5, k6, k7, k8, k10, l00, v0, ← hs1]; cbv) | with_reducible refine And.intro ?_ ?_ | ((with_reducible intro hcc); first | (cases hcc; done) | skip) | ((with_reducible first | show goC _ _ _ _ _ _ _ _ | show goOps _ _ _ _ _ | show goD _ _ _ _ _ _); cbv) | ((with_reducible show okWr _ _ = _); rfl) | ((with_reducible refine hA.st [_, _, _, _, _, _, _] _ _ _ _ ⟨?_, fun ds hds => ?_⟩); rotate_left; (have hds : ds = [.int 4, .int T, .int M, .e (.sl x), .e (.sl y), .int L, .int R] := hds); subst hds; cbv) | ((with_reducible refine hA.row es i _ ⟨hi, fun row hrow => ?_⟩); rw [q1] at hrow; subst hrow; cbv) | ((with_reducible first | refine callK_f hA hP h288 ?_ ?_ ?_ | refine callK_f hA hP h289 ?_ ?_ ?_); exact rfl; exact rfl; cbv) | ((with_reducible show A.call _ _ _ _ false _ _ _ _); refine callK_no hA (.bool false) ?_; cbv) | ((with_reducible first | refine callK_f hA hP hl1 ?_ ?_ ?_); exact rfl; exact rfl; cbv) | ((with_reducible first | refine hA.fin_pl _ _ _ ?_ | refine hA.len _ _ _ _ _ fun z hz hb => ?_ | refine hA.off _ _ _ _ fun b hb => ?_ | refine hA.plus _ _ _ fun b hb => ?_ | refine hA.gb0 true _ ?_ | refine hA.gb0 false _ ?_ | refine hA.gb _ _ fun vb hvb => ?_); cbv) | ((with_reducible first | refine hA.st _ _ _ _ _ ⟨?_, fun ds hds => ?_⟩ | refine hA.sapp _ _ _ ⟨?_, fun sl hsl => ?_⟩); rotate_left; cbv) | (simp only [hA.lits]; cbv)
  all_goals try simp only [hA.ar, inR, n_cast, Int.ofNat_eq_natCast, Option.getD_some, Option.getD_none] at *
  all_goals try omega
  have k5 : A.eq 4 5 = false := by rw [hA.eq]; rfl
  have k6 : A.eq 4 6 = false := by rw [hA.eq]; rfl
  have k7 : A.eq 4 7 = false := by rw [hA.eq]; rfl
  have k8 : A.eq 4 8 = false := by rw [hA.eq]; rfl
  have k10 : A.eq 4 10 = false := by rw [hA.eq]; rfl
  have hs1 : s1 = A.add env l := by rw [hA.add]; exact hs1'
  refine hA.loopI (fun m s => ∃ (k : Int), 0 ≤ k ∧ m + k = y.length ∧ (∀ (j : Nat) e, (j : Int) < k → Exs[j]? = some e → exOk e s1 = true) ∧ s = ⟨[(13, .int k), (9, .ref 2 0), (3, .int env), (10, .int l), (11, .int 0), (8, .int 0)], [.box [.e (.sl es)], .box [.e (.sl xt)], .box [.int 4, .int T, .int M, .e (.sl x), .e (.sl y), .int L, .int R]]⟩) y.length _
    (Weak.keep (env' := [(13, .int 0), (9, .ref 2 0), (3, .int env), (10, .int l), (11, .int 0), (8, .int 0)]) ⟨rfl, rfl, rfl, rfl, rfl, rfl, trivial⟩) ⟨0, by omega, by omega, fun j e h => by omega, rfl⟩ ?_
  rintro m s Kk ⟨k, i0, i1, i2, rfl⟩ hKk
  by_cases hk : (0 : Int) ≤ k ∧ k < y.length
  · obtain ⟨e, q1, q2⟩ := ors_at hy hk
    obtain ⟨xe, hxe⟩ : ∃ x, x = e.map orow := ⟨_, rfl⟩
    have q1 : y.getD k.toNat [] = [E.sl xe] := q1.trans (by rw [hxe])
    have h31 := ok144 e xe hxe (by rw [hxe, List.length_map]; exact hel _ (List.mem_of_getElem? q2)) s1
    obtain ⟨eb, heb⟩ : ∃ b, b = exOk e s1 := ⟨_, rfl⟩
    rw [← heb] at h31
    have f3 : eb = false → res = -1 := fun h => by
      rw [hres, if_pos]
      rw [hal, Bool.eq_false_iff]
      intro h2
      have := List.all_eq_true.1 h2 e (List.mem_of_getElem? q2)
      rw [← heb, h] at this; cases this
    have hKk2 : ∀ env' : List (Nat × D), eb = true → subL [(13, .int (k + 1)), (9, .ref 2 0), (3, .int env), (10, .int l), (11, .int 0), (8, .int 0)] env' → Kk ⟨env', [.box [.e (.sl es)], .box [.e (.sl xt)], .box [.int 4, .int T, .int M, .e (.sl x), .e (.sl y), .int L, .int R]]⟩ := fun env' t1 t2 =>
      hKk _ (m - 1) _ (by omega) (Weak.keep t2) ⟨k + 1, by omega, by omega, fun j e' h1 h2 => by
        by_cases hj : (j : Int) < k
        · exact i2 j e' hj h2
        · have : j = k.toNat := by omega
          subst this
          rw [q2] at h2; cases h2
          rw [← heb]; exact t1, rfl⟩
    have e8 : A.lt k zy = true := by rw [hA.lt]; exact decide_eq_true (by omega)
    clear hKk hres heb i2 hal
    cases eb
    all_goals
      cbv
      repeat' first | with_reducible rfl | (simp only [← hs1, e8]; cbv) | with_reducible refine And.intro ?_ ?_ | ((with_reducible intro hcc); first | (cases hcc; done) | skip) | ((with_reducible first | show goC _ _ _ _ _ _ _ _ | show goOps _ _ _ _ _ | show goD _ _ _ _ _ _); cbv) | ((with_reducible show okWr _ _ = _); rfl) | ((with_reducible first | refine callK_f hA hP h31 ?_ ?_ ?_); exact rfl; exact rfl; cbv) | ((with_reducible refine hA.len y _ _ _ _ fun z hz hb => ?_); (have e6 := hzy.trans hz.symm); subst e6; cbv) | ((with_reducible refine hA.row y k _ ⟨hk, fun row hrow => ?_⟩); rw [q1] at hrow; subst hrow; cbv) | ((with_reducible first | refine hA.fin_pl _ _ _ ?_ | refine hA.len _ _ _ _ _ fun z hz hb => ?_ | refine hA.off _ _ _ _ fun b hb => ?_ | refine hA.plus _ _ _ fun b hb => ?_ | refine hA.gb0 true _ ?_ | refine hA.gb0 false _ ?_ | refine hA.gb _ _ fun vb hvb => ?_); cbv) | ((with_reducible first | refine hA.st _ _ _ _ _ ⟨?_, fun ds hds => ?_⟩ | refine hA.sapp _ _ _ ⟨?_, fun sl hsl => ?_⟩); rotate_left; cbv) | (simp only [hA.lits]; cbv)
      all_goals try simp only [hA.ar, inR, n_cast, Int.ofNat_eq_natCast, Option.getD_some, Option.getD_none] at *
      all_goals first
        | omega
        | (rw [f3 rfl]; done)
        | (rw [f3 trivial]; done)
        | exact hKk2 _ (by first | exact rfl | exact trivial) ⟨rfl, rfl, rfl, rfl, rfl, rfl, trivial⟩
        | (trace_state; fail)
  · have ha : al = true := by
      rw [hal]
      exact all_drop fun j a h => i2 j a (by
        have := (List.getElem?_eq_some_iff.1 h).1
        omega) h
    rw [ha, if_neg (by simp)] at hres
    have e8 : A.lt k zy = false := by rw [hA.lt]; exact decide_eq_false (by omega)
    clear hKk i2 hal ha
    obtain ⟨ew, hew⟩ : ∃ z, z = A.add env zy := ⟨_, rfl⟩
    have hew2 : ew = env + zy := by rw [hew, hA.add]
    rw [← hew2] at hres
    obtain ⟨bw, hbw⟩ : ∃ b, b = decide (200 < ew) := ⟨_, rfl⟩
    have vw : A.lt 200 ew = bw := by rw [hA.lt, hbw]
    have hres : res = if bw = true then -1 else zy := by rw [hres, hbw]; simp
    clear hbw
    cases bw
    all_goals
      cbv
      repeat' first | with_reducible rfl | (simp only [e8, k5, k6, k7, k8, k10, ← hew, vw]; cbv) | with_reducible refine And.intro ?_ ?_ | ((with_reducible intro hcc); first | (cases hcc; done) | skip) | ((with_reducible first | show goC _ _ _ _ _ _ _ _ | show goOps _ _ _ _ _ | show goD _ _ _ _ _ _); cbv) | ((with_reducible show okWr _ _ = _); rfl) | ((with_reducible refine hA.len y _ _ _ _ fun z hz hb => ?_); (have e6 := hzy.trans hz.symm); subst e6; cbv) | ((with_reducible first | refine hA.fin_pl _ _ _ ?_ | refine hA.len _ _ _ _ _ fun z hz hb => ?_ | refine hA.off _ _ _ _ fun b hb => ?_ | refine hA.plus _ _ _ fun b hb => ?_ | refine hA.gb0 true _ ?_ | refine hA.gb0 false _ ?_ | refine hA.gb _ _ fun vb hvb => ?_); cbv) | ((with_reducible first | refine hA.st _ _ _ _ _ ⟨?_, fun ds hds => ?_⟩ | refine hA.sapp _ _ _ ⟨?_, fun sl hsl => ?_⟩); rotate_left; cbv) | (simp only [hA.lits]; cbv)
      all_goals try simp only [hA.ar, inR, n_cast, Int.ofNat_eq_natCast, Option.getD_some, Option.getD_none] at *
      all_goals first | omega | trivial | (rw [hres]; done) | (rw [hres]; rfl) | (trace_state; fail))
set_option maxRecDepth 100000 in
set_option maxHeartbeats 8000000 in
theorem ok243_5 (T M : Int) (Ex : List (Int × Int)) (Exs : List (List (Int × Int))) (L R : Int) (x y es xt : List (List E)) (hx : x = Ex.map orow) (hy : y = Exs.map orr) (ts : List Tb) (hxt : xt = ts.map tbr) (hxl : x.length ≤ 1048576) (hyl : y.length ≤ 1048576) (hel : ∀ e ∈ Exs, e.length ≤ 1048576)
    (i env l r : Int) (hi : 0 ≤ i ∧ i < es.length) (q1 : es.getD i.toNat [] = [E.int 5, E.int T, E.int M, E.sl x, E.sl y, E.int L, E.int R]) (he : 0 ≤ env ∧ env ≤ 200) (hl : -1 ≤ l ∧ l ≤ 200) (hr : -1 ≤ r ∧ r ≤ 200) (hct : ∀ t : Int, 0 ≤ t → t < ts.length → 0 ≤ colsOf ts t ∧ colsOf ts t ≤ 1000)
    (hl1 : Plain Try.prog 82 [.agg [.e (.sl es)], .agg [.e (.sl xt)], .int L, .int env] (.int l))
    (hr1 : usedS ⟨5, T, M, Ex, Exs, L, R⟩ ts.length = true → 0 ≤ l → Plain Try.prog 82 [.agg [.e (.sl es)], .agg [.e (.sl xt)], .int R, .int (env)] (.int r))
    : Plain Try.prog 82 [.agg [.e (.sl es)], .agg [.e (.sl xt)], .int i, .int env] (.int (if usedS ⟨5, T, M, Ex, Exs, L, R⟩ ts.length = false then -1 else if l < 0 then -1 else if r < 0 then -1 else ndS ⟨5, T, M, Ex, Exs, L, R⟩ (colsOf ts) env l r)) := okOf mixed p82 fun A P hA hP => (by
  obtain ⟨zy, hzy⟩ : ∃ z : Int, z = y.length := ⟨_, rfl⟩
  have hyE : y.length = Exs.length := by rw [hy]; simp
  have hxT : xt.length = ts.length := by rw [hxt]; simp
  have h289 := ok142 5 T M Ex Exs L R x y xt hx hy
  rw [hxT] at h289
  have h288 : Plain Try.prog 141 [.int 5] (.int 2) := ok141 5
  obtain ⟨u, hu⟩ : ∃ b, b = usedS ⟨5, T, M, Ex, Exs, L, R⟩ ts.length := ⟨_, rfl⟩
  rw [← hu] at h289 ⊢
  rw [← hu] at hr1
  obtain ⟨res, hres⟩ : ∃ v : Int, v = if u = false then -1 else if l < 0 then -1 else if r < 0 then -1 else ndS ⟨5, T, M, Ex, Exs, L, R⟩ (colsOf ts) env l r := ⟨_, rfl⟩
  rw [← hres]
  have lt0 : A.lt 0 2 = true := by rw [hA.lt]; rfl
  have lt1 : A.lt 1 2 = true := by rw [hA.lt]; rfl
  have k2 : A.eq 5 2 = false := by rw [hA.eq]; rfl
  have k3 : A.eq 5 3 = false := by rw [hA.eq]; rfl
  have k4 : A.eq 5 4 = false := by rw [hA.eq]; rfl
  have k5 : A.eq 5 5 = true := by rw [hA.eq]; rfl
  have k6 : A.eq 5 6 = false := by rw [hA.eq]; rfl
  have k7 : A.eq 5 7 = false := by rw [hA.eq]; rfl
  have k8 : A.eq 5 8 = false := by rw [hA.eq]; rfl
  have k10 : A.eq 5 10 = false := by rw [hA.eq]; rfl
  have l00 : A.lt 0 0 = false := by rw [hA.lt]; rfl
  cases u
  case false =>
    have hr2 : res = -1 := by rw [hres, if_pos rfl]
    clear hres hct he hl hr hu hr1
    cbv
    repeat' first | with_reducible rfl | (simp only [lt0, lt1, k2, k3, k4, k5, k6, k7, k8, k10, l00]; cbv) | with_reducible refine And.intro ?_ ?_ | ((with_reducible intro hcc); first | (cases hcc; done) | skip) | ((with_reducible first | show goC _ _ _ _ _ _ _ _ | show goOps _ _ _ _ _ | show goD _ _ _ _ _ _); cbv) | ((with_reducible show okWr _ _ = _); rfl) | ((with_reducible refine hA.st [_, _, _, _, _, _, _] _ _ _ _ ⟨?_, fun ds hds => ?_⟩); rotate_left; (have hds : ds = [.int 5, .int T, .int M, .e (.sl x), .e (.sl y), .int L, .int R] := hds); subst hds; cbv) | ((with_reducible refine hA.row es i _ ⟨hi, fun row hrow => ?_⟩); rw [q1] at hrow; subst hrow; cbv) | ((with_reducible first | refine callK_f hA hP h288 ?_ ?_ ?_ | refine callK_f hA hP h289 ?_ ?_ ?_); exact rfl; exact rfl; cbv) | ((with_reducible show A.call _ _ _ _ false _ _ _ _); refine callK_no hA (.bool false) ?_; cbv) | ((with_reducible first | refine hA.fin_pl _ _ _ ?_ | refine hA.len _ _ _ _ _ fun z hz hb => ?_ | refine hA.off _ _ _ _ fun b hb => ?_ | refine hA.plus _ _ _ fun b hb => ?_ | refine hA.gb0 true _ ?_ | refine hA.gb0 false _ ?_ | refine hA.gb _ _ fun vb hvb => ?_); cbv) | ((with_reducible first | refine hA.st _ _ _ _ _ ⟨?_, fun ds hds => ?_⟩ | refine hA.sapp _ _ _ ⟨?_, fun sl hsl => ?_⟩); rotate_left; cbv) | (simp only [hA.lits]; cbv)
    all_goals try simp only [hA.ar, inR, n_cast, Int.ofNat_eq_natCast, Option.getD_some, Option.getD_none] at *
    all_goals first | omega | trivial | rfl | exact gg1 _ | exact gg2 _ | exact gg3 _ | exact gg4 _ | exact gg5 _ | exact gg6 _ _ | (simp; done) | (rw [hr2]; done) | (trace_state; fail)
  case true =>
  rw [if_neg (by simp)] at hres
  by_cases hl0 : l < 0
  · have v0 : A.lt l 0 = true := by rw [hA.lt]; exact decide_eq_true hl0
    have hr2 : res = -1 := by rw [hres, if_pos hl0]
    clear hres hct he hl hr hu hr1
    cbv
    repeat' first | with_reducible rfl | (simp only [lt0, lt1, k2, k3, k4, k5, k6, k7, k8, k10, l00, v0]; cbv) | with_reducible refine And.intro ?_ ?_ | ((with_reducible intro hcc); first | (cases hcc; done) | skip) | ((with_reducible first | show goC _ _ _ _ _ _ _ _ | show goOps _ _ _ _ _ | show goD _ _ _ _ _ _); cbv) | ((with_reducible show okWr _ _ = _); rfl) | ((with_reducible refine hA.st [_, _, _, _, _, _, _] _ _ _ _ ⟨?_, fun ds hds => ?_⟩); rotate_left; (have hds : ds = [.int 5, .int T, .int M, .e (.sl x), .e (.sl y), .int L, .int R] := hds); subst hds; cbv) | ((with_reducible refine hA.row es i _ ⟨hi, fun row hrow => ?_⟩); rw [q1] at hrow; subst hrow; cbv) | ((with_reducible first | refine callK_f hA hP h288 ?_ ?_ ?_ | refine callK_f hA hP h289 ?_ ?_ ?_); exact rfl; exact rfl; cbv) | ((with_reducible show A.call _ _ _ _ false _ _ _ _); refine callK_no hA (.bool false) ?_; cbv) | ((with_reducible first | refine callK_f hA hP hl1 ?_ ?_ ?_); exact rfl; exact rfl; cbv) | ((with_reducible first | refine hA.fin_pl _ _ _ ?_ | refine hA.len _ _ _ _ _ fun z hz hb => ?_ | refine hA.off _ _ _ _ fun b hb => ?_ | refine hA.plus _ _ _ fun b hb => ?_ | refine hA.gb0 true _ ?_ | refine hA.gb0 false _ ?_ | refine hA.gb _ _ fun vb hvb => ?_); cbv) | ((with_reducible first | refine hA.st _ _ _ _ _ ⟨?_, fun ds hds => ?_⟩ | refine hA.sapp _ _ _ ⟨?_, fun sl hsl => ?_⟩); rotate_left; cbv) | (simp only [hA.lits]; cbv)
    all_goals try simp only [hA.ar, inR, n_cast, Int.ofNat_eq_natCast, Option.getD_some, Option.getD_none] at *
    all_goals first | omega | trivial | rfl | exact gg1 _ | exact gg2 _ | exact gg3 _ | exact gg4 _ | exact gg5 _ | exact gg6 _ _ | (simp; done) | (rw [hr2]; done) | (trace_state; fail)
  rw [if_neg hl0] at hres
  have v0 : A.lt l 0 = false := by rw [hA.lt]; exact decide_eq_false hl0
  have hr1 := hr1 rfl (by omega)
  have h290 : Plain Try.prog 143 [.int 5, .int env, .int l] (.int (env)) := ok143 5 env l (by omega)
  by_cases hr0 : r < 0
  · have w0 : A.lt r 0 = true := by rw [hA.lt]; exact decide_eq_true hr0
    have hr2 : res = -1 := by rw [hres, if_pos hr0]
    clear hres hct he hl hr hu
    cbv
    repeat' first | with_reducible rfl | (simp only [lt0, lt1, k2, k3, k4, k5, k6, k7, k8, k10, l00, v0, w0]; cbv) | with_reducible refine And.intro ?_ ?_ | ((with_reducible intro hcc); first | (cases hcc; done) | skip) | ((with_reducible first | show goC _ _ _ _ _ _ _ _ | show goOps _ _ _ _ _ | show goD _ _ _ _ _ _); cbv) | ((with_reducible show okWr _ _ = _); rfl) | ((with_reducible refine hA.st [_, _, _, _, _, _, _] _ _ _ _ ⟨?_, fun ds hds => ?_⟩); rotate_left; (have hds : ds = [.int 5, .int T, .int M, .e (.sl x), .e (.sl y), .int L, .int R] := hds); subst hds; cbv) | ((with_reducible refine hA.row es i _ ⟨hi, fun row hrow => ?_⟩); rw [q1] at hrow; subst hrow; cbv) | ((with_reducible first | refine callK_f hA hP h288 ?_ ?_ ?_ | refine callK_f hA hP h289 ?_ ?_ ?_); exact rfl; exact rfl; cbv) | ((with_reducible show A.call _ _ _ _ false _ _ _ _); refine callK_no hA (.bool false) ?_; cbv) | ((with_reducible first | refine callK_f hA hP hl1 ?_ ?_ ?_ | refine callK_f hA hP h290 ?_ ?_ ?_ | refine callK_f hA hP hr1 ?_ ?_ ?_); exact rfl; exact rfl; cbv) | ((with_reducible first | refine hA.fin_pl _ _ _ ?_ | refine hA.len _ _ _ _ _ fun z hz hb => ?_ | refine hA.off _ _ _ _ fun b hb => ?_ | refine hA.plus _ _ _ fun b hb => ?_ | refine hA.gb0 true _ ?_ | refine hA.gb0 false _ ?_ | refine hA.gb _ _ fun vb hvb => ?_); cbv) | ((with_reducible first | refine hA.st _ _ _ _ _ ⟨?_, fun ds hds => ?_⟩ | refine hA.sapp _ _ _ ⟨?_, fun sl hsl => ?_⟩); rotate_left; cbv) | (simp only [hA.lits]; cbv)
    all_goals try simp only [hA.ar, inR, n_cast, Int.ofNat_eq_natCast, Option.getD_some, Option.getD_none] at *
    all_goals first | omega | trivial | rfl | exact gg1 _ | exact gg2 _ | exact gg3 _ | exact gg4 _ | exact gg5 _ | exact gg6 _ _ | (simp; done) | (rw [hr2]; done) | (trace_state; fail)
  rw [if_neg hr0] at hres
  have w0 : A.lt r 0 = false := by rw [hA.lt]; exact decide_eq_false hr0
  obtain ⟨w, hw⟩ : ∃ z, z = A.add l r := ⟨_, rfl⟩
  have hw' : w = l + r := by rw [hw, hA.add]
  have hres : res = if 200 < env + w then -1 else w := by
    rw [hres, ndS, hw']
    simp only [Int.reduceEq, if_true, if_false, true_and, false_and, and_true, or_true, true_or, or_false, false_or, Bool.false_eq_true, gt_iff_lt, ne_eq, not_true_eq_false, not_false_eq_true]
  clear hct hu
  obtain ⟨ew, hew⟩ : ∃ z, z = A.add env w := ⟨_, rfl⟩
  have hew2 : ew = env + w := by rw [hew, hA.add]
  rw [← hew2] at hres
  by_cases h200 : 200 < ew
  · have vw : A.lt 200 ew = true := by rw [hA.lt]; exact decide_eq_true h200
    rw [if_pos h200] at hres
    cbv
    repeat' first | with_reducible rfl | (simp only [lt0, lt1, k2, k3, k4, k5, k6, k7, k8, k10, l00, v0, w0, ← hw, ← hew, vw]; cbv) | with_reducible refine And.intro ?_ ?_ | ((with_reducible intro hcc); first | (cases hcc; done) | skip) | ((with_reducible first | show goC _ _ _ _ _ _ _ _ | show goOps _ _ _ _ _ | show goD _ _ _ _ _ _); cbv) | ((with_reducible show okWr _ _ = _); rfl) | ((with_reducible refine hA.st [_, _, _, _, _, _, _] _ _ _ _ ⟨?_, fun ds hds => ?_⟩); rotate_left; (have hds : ds = [.int 5, .int T, .int M, .e (.sl x), .e (.sl y), .int L, .int R] := hds); subst hds; cbv) | ((with_reducible refine hA.row es i _ ⟨hi, fun row hrow => ?_⟩); rw [q1] at hrow; subst hrow; cbv) | ((with_reducible first | refine callK_f hA hP h288 ?_ ?_ ?_ | refine callK_f hA hP h289 ?_ ?_ ?_); exact rfl; exact rfl; cbv) | ((with_reducible show A.call _ _ _ _ false _ _ _ _); refine callK_no hA (.bool false) ?_; cbv) | ((with_reducible first | refine callK_f hA hP hl1 ?_ ?_ ?_ | refine callK_f hA hP h290 ?_ ?_ ?_ | refine callK_f hA hP hr1 ?_ ?_ ?_); exact rfl; exact rfl; cbv) | ((with_reducible first | refine hA.fin_pl _ _ _ ?_ | refine hA.len _ _ _ _ _ fun z hz hb => ?_ | refine hA.off _ _ _ _ fun b hb => ?_ | refine hA.plus _ _ _ fun b hb => ?_ | refine hA.gb0 true _ ?_ | refine hA.gb0 false _ ?_ | refine hA.gb _ _ fun vb hvb => ?_); cbv) | ((with_reducible first | refine hA.st _ _ _ _ _ ⟨?_, fun ds hds => ?_⟩ | refine hA.sapp _ _ _ ⟨?_, fun sl hsl => ?_⟩); rotate_left; cbv) | (simp only [hA.lits]; cbv)
    all_goals try simp only [hA.ar, inR, n_cast, Int.ofNat_eq_natCast, Option.getD_some, Option.getD_none] at *
    all_goals first | omega | trivial | rfl | exact gg1 _ | exact gg2 _ | exact gg3 _ | exact gg4 _ | exact gg5 _ | exact gg6 _ _ | (simp; done) | (rw [hres]; done) | (trace_state; fail)
  · have vw : A.lt 200 ew = false := by rw [hA.lt]; exact decide_eq_false h200
    rw [if_neg h200] at hres
    cbv
    repeat' first | with_reducible rfl | (simp only [lt0, lt1, k2, k3, k4, k5, k6, k7, k8, k10, l00, v0, w0, ← hw, ← hew, vw]; cbv) | with_reducible refine And.intro ?_ ?_ | ((with_reducible intro hcc); first | (cases hcc; done) | skip) | ((with_reducible first | show goC _ _ _ _ _ _ _ _ | show goOps _ _ _ _ _ | show goD _ _ _ _ _ _); cbv) | ((with_reducible show okWr _ _ = _); rfl) | ((with_reducible refine hA.st [_, _, _, _, _, _, _] _ _ _ _ ⟨?_, fun ds hds => ?_⟩); rotate_left; (have hds : ds = [.int 5, .int T, .int M, .e (.sl x), .e (.sl y), .int L, .int R] := hds); subst hds; cbv) | ((with_reducible refine hA.row es i _ ⟨hi, fun row hrow => ?_⟩); rw [q1] at hrow; subst hrow; cbv) | ((with_reducible first | refine callK_f hA hP h288 ?_ ?_ ?_ | refine callK_f hA hP h289 ?_ ?_ ?_); exact rfl; exact rfl; cbv) | ((with_reducible show A.call _ _ _ _ false _ _ _ _); refine callK_no hA (.bool false) ?_; cbv) | ((with_reducible first | refine callK_f hA hP hl1 ?_ ?_ ?_ | refine callK_f hA hP h290 ?_ ?_ ?_ | refine callK_f hA hP hr1 ?_ ?_ ?_); exact rfl; exact rfl; cbv) | ((with_reducible first | refine hA.fin_pl _ _ _ ?_ | refine hA.len _ _ _ _ _ fun z hz hb => ?_ | refine hA.off _ _ _ _ fun b hb => ?_ | refine hA.plus _ _ _ fun b hb => ?_ | refine hA.gb0 true _ ?_ | refine hA.gb0 false _ ?_ | refine hA.gb _ _ fun vb hvb => ?_); cbv) | ((with_reducible first | refine hA.st _ _ _ _ _ ⟨?_, fun ds hds => ?_⟩ | refine hA.sapp _ _ _ ⟨?_, fun sl hsl => ?_⟩); rotate_left; cbv) | (simp only [hA.lits]; cbv)
    all_goals try simp only [hA.ar, inR, n_cast, Int.ofNat_eq_natCast, Option.getD_some, Option.getD_none] at *
    all_goals first | omega | trivial | rfl | exact gg1 _ | exact gg2 _ | exact gg3 _ | exact gg4 _ | exact gg5 _ | exact gg6 _ _ | (simp; done) | (rw [hres]; done) | (trace_state; fail))
set_option maxRecDepth 100000 in
set_option maxHeartbeats 8000000 in
theorem ok243_6 (T M : Int) (Ex : List (Int × Int)) (Exs : List (List (Int × Int))) (L R : Int) (x y es xt : List (List E)) (hx : x = Ex.map orow) (hy : y = Exs.map orr) (ts : List Tb) (hxt : xt = ts.map tbr) (hxl : x.length ≤ 1048576) (hyl : y.length ≤ 1048576) (hel : ∀ e ∈ Exs, e.length ≤ 1048576)
    (i env l r : Int) (hi : 0 ≤ i ∧ i < es.length) (q1 : es.getD i.toNat [] = [E.int 6, E.int T, E.int M, E.sl x, E.sl y, E.int L, E.int R]) (he : 0 ≤ env ∧ env ≤ 200) (hl : -1 ≤ l ∧ l ≤ 200) (hr : -1 ≤ r ∧ r ≤ 200) (hct : ∀ t : Int, 0 ≤ t → t < ts.length → 0 ≤ colsOf ts t ∧ colsOf ts t ≤ 1000)
    (hl1 : Plain Try.prog 82 [.agg [.e (.sl es)], .agg [.e (.sl xt)], .int L, .int env] (.int l))
    (hr1 : usedS ⟨6, T, M, Ex, Exs, L, R⟩ ts.length = true → 0 ≤ l → Plain Try.prog 82 [.agg [.e (.sl es)], .agg [.e (.sl xt)], .int R, .int (env + l)] (.int r))
    : Plain Try.prog 82 [.agg [.e (.sl es)], .agg [.e (.sl xt)], .int i, .int env] (.int (if usedS ⟨6, T, M, Ex, Exs, L, R⟩ ts.length = false then -1 else if l < 0 then -1 else if r < 0 then -1 else ndS ⟨6, T, M, Ex, Exs, L, R⟩ (colsOf ts) env l r)) := okOf mixed p82 fun A P hA hP => (by
  obtain ⟨zy, hzy⟩ : ∃ z : Int, z = y.length := ⟨_, rfl⟩
  have hyE : y.length = Exs.length := by rw [hy]; simp
  have hxT : xt.length = ts.length := by rw [hxt]; simp
  have h289 := ok142 6 T M Ex Exs L R x y xt hx hy
  rw [hxT] at h289
  have h288 : Plain Try.prog 141 [.int 6] (.int 2) := ok141 6
  obtain ⟨u, hu⟩ : ∃ b, b = usedS ⟨6, T, M, Ex, Exs, L, R⟩ ts.length := ⟨_, rfl⟩
  rw [← hu] at h289 ⊢
  rw [← hu] at hr1
  obtain ⟨res, hres⟩ : ∃ v : Int, v = if u = false then -1 else if l < 0 then -1 else if r < 0 then -1 else ndS ⟨6, T, M, Ex, Exs, L, R⟩ (colsOf ts) env l r := ⟨_, rfl⟩
  rw [← hres]
  have lt0 : A.lt 0 2 = true := by rw [hA.lt]; rfl
  have lt1 : A.lt 1 2 = true := by rw [hA.lt]; rfl
  have k2 : A.eq 6 2 = false := by rw [hA.eq]; rfl
  have k3 : A.eq 6 3 = false := by rw [hA.eq]; rfl
  have k4 : A.eq 6 4 = false := by rw [hA.eq]; rfl
  have k5 : A.eq 6 5 = false := by rw [hA.eq]; rfl
  have k6 : A.eq 6 6 = true := by rw [hA.eq]; rfl
  have k7 : A.eq 6 7 = false := by rw [hA.eq]; rfl
  have k8 : A.eq 6 8 = false := by rw [hA.eq]; rfl
  have k10 : A.eq 6 10 = false := by rw [hA.eq]; rfl
  have l00 : A.lt 0 0 = false := by rw [hA.lt]; rfl
  cases u
  case false =>
    have hr2 : res = -1 := by rw [hres, if_pos rfl]
    clear hres hct he hl hr hu hr1
    cbv
    repeat' first | with_reducible rfl | (simp only [lt0, lt1, k2, k3, k4, k5, k6, k7, k8, k10, l00]; cbv) | with_reducible refine And.intro ?_ ?_ | ((with_reducible intro hcc); first | (cases hcc; done) | skip) | ((with_reducible first | show goC _ _ _ _ _ _ _ _ | show goOps _ _ _ _ _ | show goD _ _ _ _ _ _); cbv) | ((with_reducible show okWr _ _ = _); rfl) | ((with_reducible refine hA.st [_, _, _, _, _, _, _] _ _ _ _ ⟨?_, fun ds hds => ?_⟩); rotate_left; (have hds : ds = [.int 6, .int T, .int M, .e (.sl x), .e (.sl y), .int L, .int R] := hds); subst hds; cbv) | ((with_reducible refine hA.row es i _ ⟨hi, fun row hrow => ?_⟩); rw [q1] at hrow; subst hrow; cbv) | ((with_reducible first | refine callK_f hA hP h288 ?_ ?_ ?_ | refine callK_f hA hP h289 ?_ ?_ ?_); exact rfl; exact rfl; cbv) | ((with_reducible show A.call _ _ _ _ false _ _ _ _); refine callK_no hA (.bool false) ?_; cbv) | ((with_reducible first | refine hA.fin_pl _ _ _ ?_ | refine hA.len _ _ _ _ _ fun z hz hb => ?_ | refine hA.off _ _ _ _ fun b hb => ?_ | refine hA.plus _ _ _ fun b hb => ?_ | refine hA.gb0 true _ ?_ | refine hA.gb0 false _ ?_ | refine hA.gb _ _ fun vb hvb => ?_); cbv) | ((with_reducible first | refine hA.st _ _ _ _ _ ⟨?_, fun ds hds => ?_⟩ | refine hA.sapp _ _ _ ⟨?_, fun sl hsl => ?_⟩); rotate_left; cbv) | (simp only [hA.lits]; cbv)
    all_goals try simp only [hA.ar, inR, n_cast, Int.ofNat_eq_natCast, Option.getD_some, Option.getD_none] at *
    all_goals first | omega | trivial | rfl | exact gg1 _ | exact gg2 _ | exact gg3 _ | exact gg4 _ | exact gg5 _ | exact gg6 _ _ | (simp; done) | (rw [hr2]; done) | (trace_state; fail)
  case true =>
  rw [if_neg (by simp)] at hres
  by_cases hl0 : l < 0
  · have v0 : A.lt l 0 = true := by rw [hA.lt]; exact decide_eq_true hl0
    have hr2 : res = -1 := by rw [hres, if_pos hl0]
    clear hres hct he hl hr hu hr1
    cbv
    repeat' first | with_reducible rfl | (simp only [lt0, lt1, k2, k3, k4, k5, k6, k7, k8, k10, l00, v0]; cbv) | with_reducible refine And.intro ?_ ?_ | ((with_reducible intro hcc); first | (cases hcc; done) | skip) | ((with_reducible first | show goC _ _ _ _ _ _ _ _ | show goOps _ _ _ _ _ | show goD _ _ _ _ _ _); cbv) | ((with_reducible show okWr _ _ = _); rfl) | ((with_reducible refine hA.st [_, _, _, _, _, _, _] _ _ _ _ ⟨?_, fun ds hds => ?_⟩); rotate_left; (have hds : ds = [.int 6, .int T, .int M, .e (.sl x), .e (.sl y), .int L, .int R] := hds); subst hds; cbv) | ((with_reducible refine hA.row es i _ ⟨hi, fun row hrow => ?_⟩); rw [q1] at hrow; subst hrow; cbv) | ((with_reducible first | refine callK_f hA hP h288 ?_ ?_ ?_ | refine callK_f hA hP h289 ?_ ?_ ?_); exact rfl; exact rfl; cbv) | ((with_reducible show A.call _ _ _ _ false _ _ _ _); refine callK_no hA (.bool false) ?_; cbv) | ((with_reducible first | refine callK_f hA hP hl1 ?_ ?_ ?_); exact rfl; exact rfl; cbv) | ((with_reducible first | refine hA.fin_pl _ _ _ ?_ | refine hA.len _ _ _ _ _ fun z hz hb => ?_ | refine hA.off _ _ _ _ fun b hb => ?_ | refine hA.plus _ _ _ fun b hb => ?_ | refine hA.gb0 true _ ?_ | refine hA.gb0 false _ ?_ | refine hA.gb _ _ fun vb hvb => ?_); cbv) | ((with_reducible first | refine hA.st _ _ _ _ _ ⟨?_, fun ds hds => ?_⟩ | refine hA.sapp _ _ _ ⟨?_, fun sl hsl => ?_⟩); rotate_left; cbv) | (simp only [hA.lits]; cbv)
    all_goals try simp only [hA.ar, inR, n_cast, Int.ofNat_eq_natCast, Option.getD_some, Option.getD_none] at *
    all_goals first | omega | trivial | rfl | exact gg1 _ | exact gg2 _ | exact gg3 _ | exact gg4 _ | exact gg5 _ | exact gg6 _ _ | (simp; done) | (rw [hr2]; done) | (trace_state; fail)
  rw [if_neg hl0] at hres
  have v0 : A.lt l 0 = false := by rw [hA.lt]; exact decide_eq_false hl0
  have hr1 := hr1 rfl (by omega)
  have h290 : Plain Try.prog 143 [.int 6, .int env, .int l] (.int (env + l)) := ok143 6 env l (by omega)
  obtain ⟨e2, he2⟩ : ∃ z, z = env + l := ⟨_, rfl⟩
  rw [← he2] at hr1 h290
  by_cases hr0 : r < 0
  · have w0 : A.lt r 0 = true := by rw [hA.lt]; exact decide_eq_true hr0
    have hr2 : res = -1 := by rw [hres, if_pos hr0]
    clear hres hct he hl hr hu
    cbv
    repeat' first | with_reducible rfl | (simp only [lt0, lt1, k2, k3, k4, k5, k6, k7, k8, k10, l00, v0, w0]; cbv) | with_reducible refine And.intro ?_ ?_ | ((with_reducible intro hcc); first | (cases hcc; done) | skip) | ((with_reducible first | show goC _ _ _ _ _ _ _ _ | show goOps _ _ _ _ _ | show goD _ _ _ _ _ _); cbv) | ((with_reducible show okWr _ _ = _); rfl) | ((with_reducible refine hA.st [_, _, _, _, _, _, _] _ _ _ _ ⟨?_, fun ds hds => ?_⟩); rotate_left; (have hds : ds = [.int 6, .int T, .int M, .e (.sl x), .e (.sl y), .int L, .int R] := hds); subst hds; cbv) | ((with_reducible refine hA.row es i _ ⟨hi, fun row hrow => ?_⟩); rw [q1] at hrow; subst hrow; cbv) | ((with_reducible first | refine callK_f hA hP h288 ?_ ?_ ?_ | refine callK_f hA hP h289 ?_ ?_ ?_); exact rfl; exact rfl; cbv) | ((with_reducible show A.call _ _ _ _ false _ _ _ _); refine callK_no hA (.bool false) ?_; cbv) | ((with_reducible first | refine callK_f hA hP hl1 ?_ ?_ ?_ | refine callK_f hA hP h290 ?_ ?_ ?_ | refine callK_f hA hP hr1 ?_ ?_ ?_); exact rfl; exact rfl; cbv) | ((with_reducible first | refine hA.fin_pl _ _ _ ?_ | refine hA.len _ _ _ _ _ fun z hz hb => ?_ | refine hA.off _ _ _ _ fun b hb => ?_ | refine hA.plus _ _ _ fun b hb => ?_ | refine hA.gb0 true _ ?_ | refine hA.gb0 false _ ?_ | refine hA.gb _ _ fun vb hvb => ?_); cbv) | ((with_reducible first | refine hA.st _ _ _ _ _ ⟨?_, fun ds hds => ?_⟩ | refine hA.sapp _ _ _ ⟨?_, fun sl hsl => ?_⟩); rotate_left; cbv) | (simp only [hA.lits]; cbv)
    all_goals try simp only [hA.ar, inR, n_cast, Int.ofNat_eq_natCast, Option.getD_some, Option.getD_none] at *
    all_goals first | omega | trivial | rfl | exact gg1 _ | exact gg2 _ | exact gg3 _ | exact gg4 _ | exact gg5 _ | exact gg6 _ _ | (simp; done) | (rw [hr2]; done) | (trace_state; fail)
  rw [if_neg hr0] at hres
  have w0 : A.lt r 0 = false := by rw [hA.lt]; exact decide_eq_false hr0
  obtain ⟨w, hw⟩ : ∃ z, z = A.add l r := ⟨_, rfl⟩
  have hw' : w = l + r := by rw [hw, hA.add]
  have hres : res = if 200 < env + w then -1 else w := by
    rw [hres, ndS, hw']
    simp only [Int.reduceEq, if_true, if_false, true_and, false_and, and_true, or_true, true_or, or_false, false_or, Bool.false_eq_true, gt_iff_lt, ne_eq, not_true_eq_false, not_false_eq_true]
  clear hct hu
  obtain ⟨ew, hew⟩ : ∃ z, z = A.add env w := ⟨_, rfl⟩
  have hew2 : ew = env + w := by rw [hew, hA.add]
  rw [← hew2] at hres
  by_cases h200 : 200 < ew
  · have vw : A.lt 200 ew = true := by rw [hA.lt]; exact decide_eq_true h200
    rw [if_pos h200] at hres
    cbv
    repeat' first | with_reducible rfl | (simp only [lt0, lt1, k2, k3, k4, k5, k6, k7, k8, k10, l00, v0, w0, ← hw, ← hew, vw]; cbv) | with_reducible refine And.intro ?_ ?_ | ((with_reducible intro hcc); first | (cases hcc; done) | skip) | ((with_reducible first | show goC _ _ _ _ _ _ _ _ | show goOps _ _ _ _ _ | show goD _ _ _ _ _ _); cbv) | ((with_reducible show okWr _ _ = _); rfl) | ((with_reducible refine hA.st [_, _, _, _, _, _, _] _ _ _ _ ⟨?_, fun ds hds => ?_⟩); rotate_left; (have hds : ds = [.int 6, .int T, .int M, .e (.sl x), .e (.sl y), .int L, .int R] := hds); subst hds; cbv) | ((with_reducible refine hA.row es i _ ⟨hi, fun row hrow => ?_⟩); rw [q1] at hrow; subst hrow; cbv) | ((with_reducible first | refine callK_f hA hP h288 ?_ ?_ ?_ | refine callK_f hA hP h289 ?_ ?_ ?_); exact rfl; exact rfl; cbv) | ((with_reducible show A.call _ _ _ _ false _ _ _ _); refine callK_no hA (.bool false) ?_; cbv) | ((with_reducible first | refine callK_f hA hP hl1 ?_ ?_ ?_ | refine callK_f hA hP h290 ?_ ?_ ?_ | refine callK_f hA hP hr1 ?_ ?_ ?_); exact rfl; exact rfl; cbv) | ((with_reducible first | refine hA.fin_pl _ _ _ ?_ | refine hA.len _ _ _ _ _ fun z hz hb => ?_ | refine hA.off _ _ _ _ fun b hb => ?_ | refine hA.plus _ _ _ fun b hb => ?_ | refine hA.gb0 true _ ?_ | refine hA.gb0 false _ ?_ | refine hA.gb _ _ fun vb hvb => ?_); cbv) | ((with_reducible first | refine hA.st _ _ _ _ _ ⟨?_, fun ds hds => ?_⟩ | refine hA.sapp _ _ _ ⟨?_, fun sl hsl => ?_⟩); rotate_left; cbv) | (simp only [hA.lits]; cbv)
    all_goals try simp only [hA.ar, inR, n_cast, Int.ofNat_eq_natCast, Option.getD_some, Option.getD_none] at *
    all_goals first | omega | trivial | rfl | exact gg1 _ | exact gg2 _ | exact gg3 _ | exact gg4 _ | exact gg5 _ | exact gg6 _ _ | (simp; done) | (rw [hres]; done) | (trace_state; fail)
  · have vw : A.lt 200 ew = false := by rw [hA.lt]; exact decide_eq_false h200
    rw [if_neg h200] at hres
    cbv
    repeat' first | with_reducible rfl | (simp only [lt0, lt1, k2, k3, k4, k5, k6, k7, k8, k10, l00, v0, w0, ← hw, ← hew, vw]; cbv) | with_reducible refine And.intro ?_ ?_ | ((with_reducible intro hcc); first | (cases hcc; done) | skip) | ((with_reducible first | show goC _ _ _ _ _ _ _ _ | show goOps _ _ _ _ _ | show goD _ _ _ _ _ _); cbv) | ((with_reducible show okWr _ _ = _); rfl) | ((with_reducible refine hA.st [_, _, _, _, _, _, _] _ _ _ _ ⟨?_, fun ds hds => ?_⟩); rotate_left; (have hds : ds = [.int 6, .int T, .int M, .e (.sl x), .e (.sl y), .int L, .int R] := hds); subst hds; cbv) | ((with_reducible refine hA.row es i _ ⟨hi, fun row hrow => ?_⟩); rw [q1] at hrow; subst hrow; cbv) | ((with_reducible first | refine callK_f hA hP h288 ?_ ?_ ?_ | refine callK_f hA hP h289 ?_ ?_ ?_); exact rfl; exact rfl; cbv) | ((with_reducible show A.call _ _ _ _ false _ _ _ _); refine callK_no hA (.bool false) ?_; cbv) | ((with_reducible first | refine callK_f hA hP hl1 ?_ ?_ ?_ | refine callK_f hA hP h290 ?_ ?_ ?_ | refine callK_f hA hP hr1 ?_ ?_ ?_); exact rfl; exact rfl; cbv) | ((with_reducible first | refine hA.fin_pl _ _ _ ?_ | refine hA.len _ _ _ _ _ fun z hz hb => ?_ | refine hA.off _ _ _ _ fun b hb => ?_ | refine hA.plus _ _ _ fun b hb => ?_ | refine hA.gb0 true _ ?_ | refine hA.gb0 false _ ?_ | refine hA.gb _ _ fun vb hvb => ?_); cbv) | ((with_reducible first | refine hA.st _ _ _ _ _ ⟨?_, fun ds hds => ?_⟩ | refine hA.sapp _ _ _ ⟨?_, fun sl hsl => ?_⟩); rotate_left; cbv) | (simp only [hA.lits]; cbv)
    all_goals try simp only [hA.ar, inR, n_cast, Int.ofNat_eq_natCast, Option.getD_some, Option.getD_none] at *
    all_goals first | omega | trivial | rfl | exact gg1 _ | exact gg2 _ | exact gg3 _ | exact gg4 _ | exact gg5 _ | exact gg6 _ _ | (simp; done) | (rw [hres]; done) | (trace_state; fail))
set_option maxRecDepth 100000 in
set_option maxHeartbeats 8000000 in
theorem ok243_7 (T M : Int) (Ex : List (Int × Int)) (Exs : List (List (Int × Int))) (L R : Int) (x y es xt : List (List E)) (hx : x = Ex.map orow) (hy : y = Exs.map orr) (ts : List Tb) (hxt : xt = ts.map tbr) (hxl : x.length ≤ 1048576) (hyl : y.length ≤ 1048576) (hel : ∀ e ∈ Exs, e.length ≤ 1048576)
    (i env l r : Int) (hi : 0 ≤ i ∧ i < es.length) (q1 : es.getD i.toNat [] = [E.int 7, E.int T, E.int M, E.sl x, E.sl y, E.int L, E.int R]) (he : 0 ≤ env ∧ env ≤ 200) (hl : -1 ≤ l ∧ l ≤ 200) (hr : -1 ≤ r ∧ r ≤ 200) (hct : ∀ t : Int, 0 ≤ t → t < ts.length → 0 ≤ colsOf ts t ∧ colsOf ts t ≤ 1000)
    (hl1 : Plain Try.prog 82 [.agg [.e (.sl es)], .agg [.e (.sl xt)], .int L, .int env] (.int l))
    (hr1 : usedS ⟨7, T, M, Ex, Exs, L, R⟩ ts.length = true → 0 ≤ l → Plain Try.prog 82 [.agg [.e (.sl es)], .agg [.e (.sl xt)], .int R, .int (env + l)] (.int r))
    : Plain Try.prog 82 [.agg [.e (.sl es)], .agg [.e (.sl xt)], .int i, .int env] (.int (if usedS ⟨7, T, M, Ex, Exs, L, R⟩ ts.length = false then -1 else if l < 0 then -1 else if r < 0 then -1 else ndS ⟨7, T, M, Ex, Exs, L, R⟩ (colsOf ts) env l r)) := okOf mixed p82 fun A P hA hP => (by
  obtain ⟨zy, hzy⟩ : ∃ z : Int, z = y.length := ⟨_, rfl⟩
  have hyE : y.length = Exs.length := by rw [hy]; simp
  have hxT : xt.length = ts.length := by rw [hxt]; simp
  have h289 := ok142 7 T M Ex Exs L R x y xt hx hy
  rw [hxT] at h289
  have h288 : Plain Try.prog 141 [.int 7] (.int 2) := ok141 7
  obtain ⟨u, hu⟩ : ∃ b, b = usedS ⟨7, T, M, Ex, Exs, L, R⟩ ts.length := ⟨_, rfl⟩
  rw [← hu] at h289 ⊢
  rw [← hu] at hr1
  obtain ⟨res, hres⟩ : ∃ v : Int, v = if u = false then -1 else if l < 0 then -1 else if r < 0 then -1 else ndS ⟨7, T, M, Ex, Exs, L, R⟩ (colsOf ts) env l r := ⟨_, rfl⟩
  rw [← hres]
  have lt0 : A.lt 0 2 = true := by rw [hA.lt]; rfl
  have lt1 : A.lt 1 2 = true := by rw [hA.lt]; rfl
  have k2 : A.eq 7 2 = false := by rw [hA.eq]; rfl
  have k3 : A.eq 7 3 = false := by rw [hA.eq]; rfl
  have k4 : A.eq 7 4 = false := by rw [hA.eq]; rfl
  have k5 : A.eq 7 5 = false := by rw [hA.eq]; rfl
  have k6 : A.eq 7 6 = false := by rw [hA.eq]; rfl
  have k7 : A.eq 7 7 = true := by rw [hA.eq]; rfl
  have k8 : A.eq 7 8 = false := by rw [hA.eq]; rfl
  have k10 : A.eq 7 10 = false := by rw [hA.eq]; rfl
  have l00 : A.lt 0 0 = false := by rw [hA.lt]; rfl
  cases u
  case false =>
    have hr2 : res = -1 := by rw [hres, if_pos rfl]
    clear hres hct he hl hr hu hr1
    cbv
    repeat' first | with_reducible rfl | (simp only [lt0, lt1, k2, k3, k4, k5, k6, k7, k8, k10, l00]; cbv) | with_reducible refine And.intro ?_ ?_ | ((with_reducible intro hcc); first | (cases hcc; done) | skip) | ((with_reducible first | show goC _ _ _ _ _ _ _ _ | show goOps _ _ _ _ _ | show goD _ _ _ _ _ _); cbv) | ((with_reducible show okWr _ _ = _); rfl) | ((with_reducible refine hA.st [_, _, _, _, _, _, _] _ _ _ _ ⟨?_, fun ds hds => ?_⟩); rotate_left; (have hds : ds = [.int 7, .int T, .int M, .e (.sl x), .e (.sl y), .int L, .int R] := hds); subst hds; cbv) | ((with_reducible refine hA.row es i _ ⟨hi, fun row hrow => ?_⟩); rw [q1] at hrow; subst hrow; cbv) | ((with_reducible first | refine callK_f hA hP h288 ?_ ?_ ?_ | refine callK_f hA hP h289 ?_ ?_ ?_); exact rfl; exact rfl; cbv) | ((with_reducible show A.call _ _ _ _ false _ _ _ _); refine callK_no hA (.bool false) ?_; cbv) | ((with_reducible first | refine hA.fin_pl _ _ _ ?_ | refine hA.len _ _ _ _ _ fun z hz hb => ?_ | refine hA.off _ _ _ _ fun b hb => ?_ | refine hA.plus _ _ _ fun b hb => ?_ | refine hA.gb0 true _ ?_ | refine hA.gb0 false _ ?_ | refine hA.gb _ _ fun vb hvb => ?_); cbv) | ((with_reducible first | refine hA.st _ _ _ _ _ ⟨?_, fun ds hds => ?_⟩ | refine hA.sapp _ _ _ ⟨?_, fun sl hsl => ?_⟩); rotate_left; cbv) | (simp only [hA.lits]; cbv)
    all_goals try simp only [hA.ar, inR, n_cast, Int.ofNat_eq_natCast, Option.getD_some, Option.getD_none] at *
    all_goals first | omega | trivial | rfl | exact gg1 _ | exact gg2 _ | exact gg3 _ | exact gg4 _ | exact gg5 _ | exact gg6 _ _ | (simp; done) | (rw [hr2]; done) | (trace_state; fail)
  case true =>
  rw [if_neg (by simp)] at hres
  by_cases hl0 : l < 0
  · have v0 : A.lt l 0 = true := by rw [hA.lt]; exact decide_eq_true hl0
    have hr2 : res = -1 := by rw [hres, if_pos hl0]
    clear hres hct he hl hr hu hr1
    cbv
    repeat' first | with_reducible rfl | (simp only [lt0, lt1, k2, k3, k4, k5, k6, k7, k8, k10, l00, v0]; cbv) | with_reducible refine And.intro ?_ ?_ | ((with_reducible intro hcc); first | (cases hcc; done) | skip) | ((with_reducible first | show goC _ _ _ _ _ _ _ _ | show goOps _ _ _ _ _ | show goD _ _ _ _ _ _); cbv) | ((with_reducible show okWr _ _ = _); rfl) | ((with_reducible refine hA.st [_, _, _, _, _, _, _] _ _ _ _ ⟨?_, fun ds hds => ?_⟩); rotate_left; (have hds : ds = [.int 7, .int T, .int M, .e (.sl x), .e (.sl y), .int L, .int R] := hds); subst hds; cbv) | ((with_reducible refine hA.row es i _ ⟨hi, fun row hrow => ?_⟩); rw [q1] at hrow; subst hrow; cbv) | ((with_reducible first | refine callK_f hA hP h288 ?_ ?_ ?_ | refine callK_f hA hP h289 ?_ ?_ ?_); exact rfl; exact rfl; cbv) | ((with_reducible show A.call _ _ _ _ false _ _ _ _); refine callK_no hA (.bool false) ?_; cbv) | ((with_reducible first | refine callK_f hA hP hl1 ?_ ?_ ?_); exact rfl; exact rfl; cbv) | ((with_reducible first | refine hA.fin_pl _ _ _ ?_ | refine hA.len _ _ _ _ _ fun z hz hb => ?_ | refine hA.off _ _ _ _ fun b hb => ?_ | refine hA.plus _ _ _ fun b hb => ?_ | refine hA.gb0 true _ ?_ | refine hA.gb0 false _ ?_ | refine hA.gb _ _ fun vb hvb => ?_); cbv) | ((with_reducible first | refine hA.st _ _ _ _ _ ⟨?_, fun ds hds => ?_⟩ | refine hA.sapp _ _ _ ⟨?_, fun sl hsl => ?_⟩); rotate_left; cbv) | (simp only [hA.lits]; cbv)
    all_goals try simp only [hA.ar, inR, n_cast, Int.ofNat_eq_natCast, Option.getD_some, Option.getD_none] at *
    all_goals first | omega | trivial | rfl | exact gg1 _ | exact gg2 _ | exact gg3 _ | exact gg4 _ | exact gg5 _ | exact gg6 _ _ | (simp; done) | (rw [hr2]; done) | (trace_state; fail)
  rw [if_neg hl0] at hres
  have v0 : A.lt l 0 = false := by rw [hA.lt]; exact decide_eq_false hl0
  have hr1 := hr1 rfl (by omega)
  have h290 : Plain Try.prog 143 [.int 7, .int env, .int l] (.int (env + l)) := ok143 7 env l (by omega)
  obtain ⟨e2, he2⟩ : ∃ z, z = env + l := ⟨_, rfl⟩
  rw [← he2] at hr1 h290
  by_cases hr0 : r < 0
  · have w0 : A.lt r 0 = true := by rw [hA.lt]; exact decide_eq_true hr0
    have hr2 : res = -1 := by rw [hres, if_pos hr0]
    clear hres hct he hl hr hu
    cbv
    repeat' first | with_reducible rfl | (simp only [lt0, lt1, k2, k3, k4, k5, k6, k7, k8, k10, l00, v0, w0]; cbv) | with_reducible refine And.intro ?_ ?_ | ((with_reducible intro hcc); first | (cases hcc; done) | skip) | ((with_reducible first | show goC _ _ _ _ _ _ _ _ | show goOps _ _ _ _ _ | show goD _ _ _ _ _ _); cbv) | ((with_reducible show okWr _ _ = _); rfl) | ((with_reducible refine hA.st [_, _, _, _, _, _, _] _ _ _ _ ⟨?_, fun ds hds => ?_⟩); rotate_left; (have hds : ds = [.int 7, .int T, .int M, .e (.sl x), .e (.sl y), .int L, .int R] := hds); subst hds; cbv) | ((with_reducible refine hA.row es i _ ⟨hi, fun row hrow => ?_⟩); rw [q1] at hrow; subst hrow; cbv) | ((with_reducible first | refine callK_f hA hP h288 ?_ ?_ ?_ | refine callK_f hA hP h289 ?_ ?_ ?_); exact rfl; exact rfl; cbv) | ((with_reducible show A.call _ _ _ _ false _ _ _ _); refine callK_no hA (.bool false) ?_; cbv) | ((with_reducible first | refine callK_f hA hP hl1 ?_ ?_ ?_ | refine callK_f hA hP h290 ?_ ?_ ?_ | refine callK_f hA hP hr1 ?_ ?_ ?_); exact rfl; exact rfl; cbv) | ((with_reducible first | refine hA.fin_pl _ _ _ ?_ | refine hA.len _ _ _ _ _ fun z hz hb => ?_ | refine hA.off _ _ _ _ fun b hb => ?_ | refine hA.plus _ _ _ fun b hb => ?_ | refine hA.gb0 true _ ?_ | refine hA.gb0 false _ ?_ | refine hA.gb _ _ fun vb hvb => ?_); cbv) | ((with_reducible first | refine hA.st _ _ _ _ _ ⟨?_, fun ds hds => ?_⟩ | refine hA.sapp _ _ _ ⟨?_, fun sl hsl => ?_⟩); rotate_left; cbv) | (simp only [hA.lits]; cbv)
    all_goals try simp only [hA.ar, inR, n_cast, Int.ofNat_eq_natCast, Option.getD_some, Option.getD_none] at *
    all_goals first | omega | trivial | rfl | exact gg1 _ | exact gg2 _ | exact gg3 _ | exact gg4 _ | exact gg5 _ | exact gg6 _ _ | (simp; done) | (rw [hr2]; done) | (trace_state; fail)
  rw [if_neg hr0] at hres
  have w0 : A.lt r 0 = false := by rw [hA.lt]; exact decide_eq_false hr0
  obtain ⟨s1, hs1⟩ : ∃ z, z = A.add env l := ⟨_, rfl⟩
  have hs1' : s1 = env + l := by rw [hs1, hA.add]
  obtain ⟨s2, hs2⟩ : ∃ z, z = A.add s1 r := ⟨_, rfl⟩
  have hs2' : s2 = env + l + r := by rw [hs2, hA.add, hs1']
  have h31 := ok144 Ex x hx hxl s2
  obtain ⟨ex, hex⟩ : ∃ b, b = exOk Ex s2 := ⟨_, rfl⟩
  rw [← hex] at h31
  rw [hs2'] at hex
  obtain ⟨m1, hm1⟩ : ∃ b, b = decide (M = 1) := ⟨_, rfl⟩
  have vm1 : A.eq M 1 = m1 := by rw [hA.eq, hm1]
  obtain ⟨wl, hwl⟩ : ∃ z, z = A.add l 1 := ⟨_, rfl⟩
  have hwl' : wl = l + 1 := by rw [hwl, hA.add]
  have hres : res = if m1 = false ∧ ex = false then -1 else if 200 < env + wl then -1 else wl := by
    rw [hres, ndS, hm1, hwl']
    simp only [Int.reduceEq, if_true, if_false, ← hex, decide_eq_false_iff_not, true_and, false_and, and_true, or_true, true_or, or_false, false_or, Bool.false_eq_true, gt_iff_lt, ne_eq, not_true_eq_false, not_false_eq_true]
  cases m1
  · cases ex
    · rw [if_pos ⟨rfl, rfl⟩] at hres
      clear hct hu hm1
      cbv
      repeat' first | with_reducible rfl | (simp only [lt0, lt1, k2, k3, k4, k5, k6, k7, k8, k10, l00, v0, w0, vm1, ← hs1, ← hs2]; cbv) | with_reducible refine And.intro ?_ ?_ | ((with_reducible intro hcc); first | (cases hcc; done) | skip) | ((with_reducible first | show goC _ _ _ _ _ _ _ _ | show goOps _ _ _ _ _ | show goD _ _ _ _ _ _); cbv) | ((with_reducible show okWr _ _ = _); rfl) | ((with_reducible refine hA.st [_, _, _, _, _, _, _] _ _ _ _ ⟨?_, fun ds hds => ?_⟩); rotate_left; (have hds : ds = [.int 7, .int T, .int M, .e (.sl x), .e (.sl y), .int L, .int R] := hds); subst hds; cbv) | ((with_reducible refine hA.row es i _ ⟨hi, fun row hrow => ?_⟩); rw [q1] at hrow; subst hrow; cbv) | ((with_reducible first | refine callK_f hA hP h288 ?_ ?_ ?_ | refine callK_f hA hP h289 ?_ ?_ ?_); exact rfl; exact rfl; cbv) | ((with_reducible show A.call _ _ _ _ false _ _ _ _); refine callK_no hA (.bool false) ?_; cbv) | ((with_reducible first | refine callK_f hA hP hl1 ?_ ?_ ?_ | refine callK_f hA hP h290 ?_ ?_ ?_ | refine callK_f hA hP hr1 ?_ ?_ ?_ | refine callK_f hA hP h31 ?_ ?_ ?_); exact rfl; exact rfl; cbv) | ((with_reducible first | refine hA.fin_pl _ _ _ ?_ | refine hA.len _ _ _ _ _ fun z hz hb => ?_ | refine hA.off _ _ _ _ fun b hb => ?_ | refine hA.plus _ _ _ fun b hb => ?_ | refine hA.gb0 true _ ?_ | refine hA.gb0 false _ ?_ | refine hA.gb _ _ fun vb hvb => ?_); cbv) | ((with_reducible first | refine hA.st _ _ _ _ _ ⟨?_, fun ds hds => ?_⟩ | refine hA.sapp _ _ _ ⟨?_, fun sl hsl => ?_⟩); rotate_left; cbv) | (simp only [hA.lits]; cbv)
      all_goals try simp only [hA.ar, inR, n_cast, Int.ofNat_eq_natCast, Option.getD_some, Option.getD_none] at *
      all_goals first | omega | trivial | rfl | exact gg1 _ | exact gg2 _ | exact gg3 _ | exact gg4 _ | exact gg5 _ | exact gg6 _ _ | (simp; done) | (rw [hres]; done) | (trace_state; fail)
    · rw [if_neg (by simp)] at hres
      clear hct hu hm1
      obtain ⟨ew, hew⟩ : ∃ z, z = A.add env wl := ⟨_, rfl⟩
      have hew2 : ew = env + wl := by rw [hew, hA.add]
      rw [← hew2] at hres
      by_cases h200 : 200 < ew
      · have vw : A.lt 200 ew = true := by rw [hA.lt]; exact decide_eq_true h200
        rw [if_pos h200] at hres
        cbv
        repeat' first | with_reducible rfl | (simp only [lt0, lt1, k2, k3, k4, k5, k6, k7, k8, k10, l00, v0, w0, vm1, ← hs1, ← hs2, ← hwl, ← hew, vw]; cbv) | with_reducible refine And.intro ?_ ?_ | ((with_reducible intro hcc); first | (cases hcc; done) | skip) | ((with_reducible first | show goC _ _ _ _ _ _ _ _ | show goOps _ _ _ _ _ | show goD _ _ _ _ _ _); cbv) | ((with_reducible show okWr _ _ = _); rfl) | ((with_reducible refine hA.st [_, _, _, _, _, _, _] _ _ _ _ ⟨?_, fun ds hds => ?_⟩); rotate_left; (have hds : ds = [.int 7, .int T, .int M, .e (.sl x), .e (.sl y), .int L, .int R] := hds); subst hds; cbv) | ((with_reducible refine hA.row es i _ ⟨hi, fun row hrow => ?_⟩); rw [q1] at hrow; subst hrow; cbv) | ((with_reducible first | refine callK_f hA hP h288 ?_ ?_ ?_ | refine callK_f hA hP h289 ?_ ?_ ?_); exact rfl; exact rfl; cbv) | ((with_reducible show A.call _ _ _ _ false _ _ _ _); refine callK_no hA (.bool false) ?_; cbv) | ((with_reducible first | refine callK_f hA hP hl1 ?_ ?_ ?_ | refine callK_f hA hP h290 ?_ ?_ ?_ | refine callK_f hA hP hr1 ?_ ?_ ?_ | refine callK_f hA hP h31 ?_ ?_ ?_); exact rfl; exact rfl; cbv) | ((with_reducible first | refine hA.fin_pl _ _ _ ?_ | refine hA.len _ _ _ _ _ fun z hz hb => ?_ | refine hA.off _ _ _ _ fun b hb => ?_ | refine hA.plus _ _ _ fun b hb => ?_ | refine hA.gb0 true _ ?_ | refine hA.gb0 false _ ?_ | refine hA.gb _ _ fun vb hvb => ?_); cbv) | ((with_reducible first | refine hA.st _ _ _ _ _ ⟨?_, fun ds hds => ?_⟩ | refine hA.sapp _ _ _ ⟨?_, fun sl hsl => ?_⟩); rotate_left; cbv) | (simp only [hA.lits]; cbv)
        all_goals try simp only [hA.ar, inR, n_cast, Int.ofNat_eq_natCast, Option.getD_some, Option.getD_none] at *
        all_goals first | omega | trivial | rfl | exact gg1 _ | exact gg2 _ | exact gg3 _ | exact gg4 _ | exact gg5 _ | exact gg6 _ _ | (simp; done) | (rw [hres]; done) | (trace_state; fail)
      · have vw : A.lt 200 ew = false := by rw [hA.lt]; exact decide_eq_false h200
        rw [if_neg h200] at hres
        cbv
        repeat' first | with_reducible rfl | (simp only [lt0, lt1, k2, k3, k4, k5, k6, k7, k8, k10, l00, v0, w0, vm1, ← hs1, ← hs2, ← hwl, ← hew, vw]; cbv) | with_reducible refine And.intro ?_ ?_ | ((with_reducible intro hcc); first | (cases hcc; done) | skip) | ((with_reducible first | show goC _ _ _ _ _ _ _ _ | show goOps _ _ _ _ _ | show goD _ _ _ _ _ _); cbv) | ((with_reducible show okWr _ _ = _); rfl) | ((with_reducible refine hA.st [_, _, _, _, _, _, _] _ _ _ _ ⟨?_, fun ds hds => ?_⟩); rotate_left; (have hds : ds = [.int 7, .int T, .int M, .e (.sl x), .e (.sl y), .int L, .int R] := hds); subst hds; cbv) | ((with_reducible refine hA.row es i _ ⟨hi, fun row hrow => ?_⟩); rw [q1] at hrow; subst hrow; cbv) | ((with_reducible first | refine callK_f hA hP h288 ?_ ?_ ?_ | refine callK_f hA hP h289 ?_ ?_ ?_); exact rfl; exact rfl; cbv) | ((with_reducible show A.call _ _ _ _ false _ _ _ _); refine callK_no hA (.bool false) ?_; cbv) | ((with_reducible first | refine callK_f hA hP hl1 ?_ ?_ ?_ | refine callK_f hA hP h290 ?_ ?_ ?_ | refine callK_f hA hP hr1 ?_ ?_ ?_ | refine callK_f hA hP h31 ?_ ?_ ?_); exact rfl; exact rfl; cbv) | ((with_reducible first | refine hA.fin_pl _ _ _ ?_ | refine hA.len _ _ _ _ _ fun z hz hb => ?_ | refine hA.off _ _ _ _ fun b hb => ?_ | refine hA.plus _ _ _ fun b hb => ?_ | refine hA.gb0 true _ ?_ | refine hA.gb0 false _ ?_ | refine hA.gb _ _ fun vb hvb => ?_); cbv) | ((with_reducible first | refine hA.st _ _ _ _ _ ⟨?_, fun ds hds => ?_⟩ | refine hA.sapp _ _ _ ⟨?_, fun sl hsl => ?_⟩); rotate_left; cbv) | (simp only [hA.lits]; cbv)
        all_goals try simp only [hA.ar, inR, n_cast, Int.ofNat_eq_natCast, Option.getD_some, Option.getD_none] at *
        all_goals first | omega | trivial | rfl | exact gg1 _ | exact gg2 _ | exact gg3 _ | exact gg4 _ | exact gg5 _ | exact gg6 _ _ | (simp; done) | (rw [hres]; done) | (trace_state; fail)
  · rw [if_neg (by simp)] at hres
    clear hct hu hm1
    obtain ⟨ew, hew⟩ : ∃ z, z = A.add env wl := ⟨_, rfl⟩
    have hew2 : ew = env + wl := by rw [hew, hA.add]
    rw [← hew2] at hres
    by_cases h200 : 200 < ew
    · have vw : A.lt 200 ew = true := by rw [hA.lt]; exact decide_eq_true h200
      rw [if_pos h200] at hres
      cbv
      repeat' first | with_reducible rfl | (simp only [lt0, lt1, k2, k3, k4, k5, k6, k7, k8, k10, l00, v0, w0, vm1, ← hs1, ← hs2, ← hwl, ← hew, vw]; cbv) | with_reducible refine And.intro ?_ ?_ | ((with_reducible intro hcc); first | (cases hcc; done) | skip) | ((with_reducible first | show goC _ _ _ _ _ _ _ _ | show goOps _ _ _ _ _ | show goD _ _ _ _ _ _); cbv) | ((with_reducible show okWr _ _ = _); rfl) | ((with_reducible refine hA.st [_, _, _, _, _, _, _] _ _ _ _ ⟨?_, fun ds hds => ?_⟩); rotate_left; (have hds : ds = [.int 7, .int T, .int M, .e (.sl x), .e (.sl y), .int L, .int R] := hds); subst hds; cbv) | ((with_reducible refine hA.row es i _ ⟨hi, fun row hrow => ?_⟩); rw [q1] at hrow; subst hrow; cbv) | ((with_reducible first | refine callK_f hA hP h288 ?_ ?_ ?_ | refine callK_f hA hP h289 ?_ ?_ ?_); exact rfl; exact rfl; cbv) | ((with_reducible show A.call _ _ _ _ false _ _ _ _); refine callK_no hA (.bool false) ?_; cbv) | ((with_reducible first | refine callK_f hA hP hl1 ?_ ?_ ?_ | refine callK_f hA hP h290 ?_ ?_ ?_ | refine callK_f hA hP hr1 ?_ ?_ ?_); exact rfl; exact rfl; cbv) | ((with_reducible show A.call _ _ _ _ false _ _ _ _); refine callK_no hA (.bool false) ?_; cbv) | ((with_reducible first | refine hA.fin_pl _ _ _ ?_ | refine hA.len _ _ _ _ _ fun z hz hb => ?_ | refine hA.off _ _ _ _ fun b hb => ?_ | refine hA.plus _ _ _ fun b hb => ?_ | refine hA.gb0 true _ ?_ | refine hA.gb0 false _ ?_ | refine hA.gb _ _ fun vb hvb => ?_); cbv) | ((with_reducible first | refine hA.st _ _ _ _ _ ⟨?_, fun ds hds => ?_⟩ | refine hA.sapp _ _ _ ⟨?_, fun sl hsl => ?_⟩); rotate_left; cbv) | (simp only [hA.lits]; cbv)
      all_goals try simp only [hA.ar, inR, n_cast, Int.ofNat_eq_natCast, Option.getD_some, Option.getD_none] at *
      all_goals first | omega | trivial | rfl | exact gg1 _ | exact gg2 _ | exact gg3 _ | exact gg4 _ | exact gg5 _ | exact gg6 _ _ | (simp; done) | (rw [hres]; done) | (trace_state; fail)
    · have vw : A.lt 200 ew = false := by rw [hA.lt]; exact decide_eq_false h200
      rw [if_neg h200] at hres
      cbv
      repeat' first | with_reducible rfl | (simp only [lt0, lt1, k2, k3, k4, k5, k6, k7, k8, k10, l00, v0, w0, vm1, ← hs1, ← hs2, ← hwl, ← hew, vw]; cbv) | with_reducible refine And.intro ?_ ?_ | ((with_reducible intro hcc); first | (cases hcc; done) | skip) | ((with_reducible first | show goC _ _ _ _ _ _ _ _ | show goOps _ _ _ _ _ | show goD _ _ _ _ _ _); cbv) | ((with_reducible show okWr _ _ = _); rfl) | ((with_reducible refine hA.st [_, _, _, _, _, _, _] _ _ _ _ ⟨?_, fun ds hds => ?_⟩); rotate_left; (have hds : ds = [.int 7, .int T, .int M, .e (.sl x), .e (.sl y), .int L, .int R] := hds); subst hds; cbv) | ((with_reducible refine hA.row es i _ ⟨hi, fun row hrow => ?_⟩); rw [q1] at hrow; subst hrow; cbv) | ((with_reducible first | refine callK_f hA hP h288 ?_ ?_ ?_ | refine callK_f hA hP h289 ?_ ?_ ?_); exact rfl; exact rfl; cbv) | ((with_reducible show A.call _ _ _ _ false _ _ _ _); refine callK_no hA (.bool false) ?_; cbv) | ((with_reducible first | refine callK_f hA hP hl1 ?_ ?_ ?_ | refine callK_f hA hP h290 ?_ ?_ ?_ | refine callK_f hA hP hr1 ?_ ?_ ?_); exact rfl; exact rfl; cbv) | ((with_reducible show A.call _ _ _ _ false _ _ _ _); refine callK_no hA (.bool false) ?_; cbv) | ((with_reducible first | refine hA.fin_pl _ _ _ ?_ | refine hA.len _ _ _ _ _ fun z hz hb => ?_ | refine hA.off _ _ _ _ fun b hb => ?_ | refine hA.plus _ _ _ fun b hb => ?_ | refine hA.gb0 true _ ?_ | refine hA.gb0 false _ ?_ | refine hA.gb _ _ fun vb hvb => ?_); cbv) | ((with_reducible first | refine hA.st _ _ _ _ _ ⟨?_, fun ds hds => ?_⟩ | refine hA.sapp _ _ _ ⟨?_, fun sl hsl => ?_⟩); rotate_left; cbv) | (simp only [hA.lits]; cbv)
      all_goals try simp only [hA.ar, inR, n_cast, Int.ofNat_eq_natCast, Option.getD_some, Option.getD_none] at *
      all_goals first | omega | trivial | rfl | exact gg1 _ | exact gg2 _ | exact gg3 _ | exact gg4 _ | exact gg5 _ | exact gg6 _ _ | (simp; done) | (rw [hres]; done) | (trace_state; fail))
set_option maxRecDepth 100000 in
set_option maxHeartbeats 8000000 in
theorem ok243_8 (T M : Int) (Ex : List (Int × Int)) (Exs : List (List (Int × Int))) (L R : Int) (x y es xt : List (List E)) (hx : x = Ex.map orow) (hy : y = Exs.map orr) (ts : List Tb) (hxt : xt = ts.map tbr) (hxl : x.length ≤ 1048576) (hyl : y.length ≤ 1048576) (hel : ∀ e ∈ Exs, e.length ≤ 1048576)
    (i env l r : Int) (hi : 0 ≤ i ∧ i < es.length) (q1 : es.getD i.toNat [] = [E.int 8, E.int T, E.int M, E.sl x, E.sl y, E.int L, E.int R]) (he : 0 ≤ env ∧ env ≤ 200) (hl : -1 ≤ l ∧ l ≤ 200) (hr : -1 ≤ r ∧ r ≤ 200) (hct : ∀ t : Int, 0 ≤ t → t < ts.length → 0 ≤ colsOf ts t ∧ colsOf ts t ≤ 1000)
    (hl1 : Plain Try.prog 82 [.agg [.e (.sl es)], .agg [.e (.sl xt)], .int L, .int env] (.int l))
    (hr1 : usedS ⟨8, T, M, Ex, Exs, L, R⟩ ts.length = true → 0 ≤ l → Plain Try.prog 82 [.agg [.e (.sl es)], .agg [.e (.sl xt)], .int R, .int (env + l)] (.int r))
    : Plain Try.prog 82 [.agg [.e (.sl es)], .agg [.e (.sl xt)], .int i, .int env] (.int (if usedS ⟨8, T, M, Ex, Exs, L, R⟩ ts.length = false then -1 else if l < 0 then -1 else if r < 0 then -1 else ndS ⟨8, T, M, Ex, Exs, L, R⟩ (colsOf ts) env l r)) := okOf mixed p82 fun A P hA hP => (by
  obtain ⟨zy, hzy⟩ : ∃ z : Int, z = y.length := ⟨_, rfl⟩
  have hyE : y.length = Exs.length := by rw [hy]; simp
  have hxT : xt.length = ts.length := by rw [hxt]; simp
  have h289 := ok142 8 T M Ex Exs L R x y xt hx hy
  rw [hxT] at h289
  have h288 : Plain Try.prog 141 [.int 8] (.int 2) := ok141 8
  obtain ⟨u, hu⟩ : ∃ b, b = usedS ⟨8, T, M, Ex, Exs, L, R⟩ ts.length := ⟨_, rfl⟩
  rw [← hu] at h289 ⊢
  rw [← hu] at hr1
  obtain ⟨res, hres⟩ : ∃ v : Int, v = if u = false then -1 else if l < 0 then -1 else if r < 0 then -1 else ndS ⟨8, T, M, Ex, Exs, L, R⟩ (colsOf ts) env l r := ⟨_, rfl⟩
  rw [← hres]
  have lt0 : A.lt 0 2 = true := by rw [hA.lt]; rfl
  have lt1 : A.lt 1 2 = true := by rw [hA.lt]; rfl
  have k2 : A.eq 8 2 = false := by rw [hA.eq]; rfl
  have k3 : A.eq 8 3 = false := by rw [hA.eq]; rfl
  have k4 : A.eq 8 4 = false := by rw [hA.eq]; rfl
  have k5 : A.eq 8 5 = false := by rw [hA.eq]; rfl
  have k6 : A.eq 8 6 = false := by rw [hA.eq]; rfl
  have k7 : A.eq 8 7 = false := by rw [hA.eq]; rfl
  have k8 : A.eq 8 8 = true := by rw [hA.eq]; rfl
  have k10 : A.eq 8 10 = false := by rw [hA.eq]; rfl
  have l00 : A.lt 0 0 = false := by rw [hA.lt]; rfl
  cases u
  case false =>
    have hr2 : res = -1 := by rw [hres, if_pos rfl]
    clear hres hct he hl hr hu hr1
    cbv
    repeat' first | with_reducible rfl | (simp only [lt0, lt1, k2, k3, k4, k5, k6, k7, k8, k10, l00]; cbv) | with_reducible refine And.intro ?_ ?_ | ((with_reducible intro hcc); first | (cases hcc; done) | skip) | ((with_reducible first | show goC _ _ _ _ _ _ _ _ | show goOps _ _ _ _ _ | show goD _ _ _ _ _ _); cbv) | ((with_reducible show okWr _ _ = _); rfl) | ((with_reducible refine hA.st [_, _, _, _, _, _, _] _ _ _ _ ⟨?_, fun ds hds => ?_⟩); rotate_left; (have hds : ds = [.int 8, .int T, .int M, .e (.sl x), .e (.sl y), .int L, .int R] := hds); subst hds; cbv) | ((with_reducible refine hA.row es i _ ⟨hi, fun row hrow => ?_⟩); rw [q1] at hrow; subst hrow; cbv) | ((with_reducible first | refine callK_f hA hP h288 ?_ ?_ ?_ | refine callK_f hA hP h289 ?_ ?_ ?_); exact rfl; exact rfl; cbv) | ((with_reducible show A.call _ _ _ _ false _ _ _ _); refine callK_no hA (.bool false) ?_; cbv) | ((with_reducible first | refine hA.fin_pl _ _ _ ?_ | refine hA.len _ _ _ _ _ fun z hz hb => ?_ | refine hA.off _ _ _ _ fun b hb => ?_ | refine hA.plus _ _ _ fun b hb => ?_ | refine hA.gb0 true _ ?_ | refine hA.gb0 false _ ?_ | refine hA.gb _ _ fun vb hvb => ?_); cbv) | ((with_reducible first | refine hA.st _ _ _ _ _ ⟨?_, fun ds hds => ?_⟩ | refine hA.sapp _ _ _ ⟨?_, fun sl hsl => ?_⟩); rotate_left; cbv) | (simp only [hA.lits]; cbv)
    all_goals try simp only [hA.ar, inR, n_cast, Int.ofNat_eq_natCast, Option.getD_some, Option.getD_none] at *
    all_goals first | omega | trivial | rfl | exact gg1 _ | exact gg2 _ | exact gg3 _ | exact gg4 _ | exact gg5 _ | exact gg6 _ _ | (simp; done) | (rw [hr2]; done) | (trace_state; fail)
  case true =>
  rw [if_neg (by simp)] at hres
  by_cases hl0 : l < 0
  · have v0 : A.lt l 0 = true := by rw [hA.lt]; exact decide_eq_true hl0
    have hr2 : res = -1 := by rw [hres, if_pos hl0]
    clear hres hct he hl hr hu hr1
    cbv
    repeat' first | with_reducible rfl | (simp only [lt0, lt1, k2, k3, k4, k5, k6, k7, k8, k10, l00, v0]; cbv) | with_reducible refine And.intro ?_ ?_ | ((with_reducible intro hcc); first | (cases hcc; done) | skip) | ((with_reducible first | show goC _ _ _ _ _ _ _ _ | show goOps _ _ _ _ _ | show goD _ _ _ _ _ _); cbv) | ((with_reducible show okWr _ _ = _); rfl) | ((with_reducible refine hA.st [_, _, _, _, _, _, _] _ _ _ _ ⟨?_, fun ds hds => ?_⟩); rotate_left; (have hds : ds = [.int 8, .int T, .int M, .e (.sl x), .e (.sl y), .int L, .int R] := hds); subst hds; cbv) | ((with_reducible refine hA.row es i _ ⟨hi, fun row hrow => ?_⟩); rw [q1] at hrow; subst hrow; cbv) | ((with_reducible first | refine callK_f hA hP h288 ?_ ?_ ?_ | refine callK_f hA hP h289 ?_ ?_ ?_); exact rfl; exact rfl; cbv) | ((with_reducible show A.call _ _ _ _ false _ _ _ _); refine callK_no hA (.bool false) ?_; cbv) | ((with_reducible first | refine callK_f hA hP hl1 ?_ ?_ ?_); exact rfl; exact rfl; cbv) | ((with_reducible first | refine hA.fin_pl _ _ _ ?_ | refine hA.len _ _ _ _ _ fun z hz hb => ?_ | refine hA.off _ _ _ _ fun b hb => ?_ | refine hA.plus _ _ _ fun b hb => ?_ | refine hA.gb0 true _ ?_ | refine hA.gb0 false _ ?_ | refine hA.gb _ _ fun vb hvb => ?_); cbv) | ((with_reducible first | refine hA.st _ _ _ _ _ ⟨?_, fun ds hds => ?_⟩ | refine hA.sapp _ _ _ ⟨?_, fun sl hsl => ?_⟩); rotate_left; cbv) | (simp only [hA.lits]; cbv)
    all_goals try simp only [hA.ar, inR, n_cast, Int.ofNat_eq_natCast, Option.getD_some, Option.getD_none] at *
    all_goals first | omega | trivial | rfl | exact gg1 _ | exact gg2 _ | exact gg3 _ | exact gg4 _ | exact gg5 _ | exact gg6 _ _ | (simp; done) | (rw [hr2]; done) | (trace_state; fail)
  rw [if_neg hl0] at hres
  have v0 : A.lt l 0 = false := by rw [hA.lt]; exact decide_eq_false hl0
  have hr1 := hr1 rfl (by omega)
  have h290 : Plain Try.prog 143 [.int 8, .int env, .int l] (.int (env + l)) := ok143 8 env l (by omega)
  obtain ⟨e2, he2⟩ : ∃ z, z = env + l := ⟨_, rfl⟩
  rw [← he2] at hr1 h290
  by_cases hr0 : r < 0
  · have w0 : A.lt r 0 = true := by rw [hA.lt]; exact decide_eq_true hr0
    have hr2 : res = -1 := by rw [hres, if_pos hr0]
    clear hres hct he hl hr hu
    cbv
    repeat' first | with_reducible rfl | (simp only [lt0, lt1, k2, k3, k4, k5, k6, k7, k8, k10, l00, v0, w0]; cbv) | with_reducible refine And.intro ?_ ?_ | ((with_reducible intro hcc); first | (cases hcc; done) | skip) | ((with_reducible first | show goC _ _ _ _ _ _ _ _ | show goOps _ _ _ _ _ | show goD _ _ _ _ _ _); cbv) | ((with_reducible show okWr _ _ = _); rfl) | ((with_reducible refine hA.st [_, _, _, _, _, _, _] _ _ _ _ ⟨?_, fun ds hds => ?_⟩); rotate_left; (have hds : ds = [.int 8, .int T, .int M, .e (.sl x), .e (.sl y), .int L, .int R] := hds); subst hds; cbv) | ((with_reducible refine hA.row es i _ ⟨hi, fun row hrow => ?_⟩); rw [q1] at hrow; subst hrow; cbv) | ((with_reducible first | refine callK_f hA hP h288 ?_ ?_ ?_ | refine callK_f hA hP h289 ?_ ?_ ?_); exact rfl; exact rfl; cbv) | ((with_reducible show A.call _ _ _ _ false _ _ _ _); refine callK_no hA (.bool false) ?_; cbv) | ((with_reducible first | refine callK_f hA hP hl1 ?_ ?_ ?_ | refine callK_f hA hP h290 ?_ ?_ ?_ | refine callK_f hA hP hr1 ?_ ?_ ?_); exact rfl; exact rfl; cbv) | ((with_reducible first | refine hA.fin_pl _ _ _ ?_ | refine hA.len _ _ _ _ _ fun z hz hb => ?_ | refine hA.off _ _ _ _ fun b hb => ?_ | refine hA.plus _ _ _ fun b hb => ?_ | refine hA.gb0 true _ ?_ | refine hA.gb0 false _ ?_ | refine hA.gb _ _ fun vb hvb => ?_); cbv) | ((with_reducible first | refine hA.st _ _ _ _ _ ⟨?_, fun ds hds => ?_⟩ | refine hA.sapp _ _ _ ⟨?_, fun sl hsl => ?_⟩); rotate_left; cbv) | (simp only [hA.lits]; cbv)
    all_goals try simp only [hA.ar, inR, n_cast, Int.ofNat_eq_natCast, Option.getD_some, Option.getD_none] at *
    all_goals first | omega | trivial | rfl | exact gg1 _ | exact gg2 _ | exact gg3 _ | exact gg4 _ | exact gg5 _ | exact gg6 _ _ | (simp; done) | (rw [hr2]; done) | (trace_state; fail)
  rw [if_neg hr0] at hres
  have w0 : A.lt r 0 = false := by rw [hA.lt]; exact decide_eq_false hr0
  obtain ⟨s1, hs1⟩ : ∃ z, z = A.add env l := ⟨_, rfl⟩
  have hs1' : s1 = env + l := by rw [hs1, hA.add]
  obtain ⟨s2, hs2⟩ : ∃ z, z = A.add s1 r := ⟨_, rfl⟩
  have hs2' : s2 = env + l + r := by rw [hs2, hA.add, hs1']
  have h31 := ok144 Ex x hx hxl s2
  obtain ⟨ex, hex⟩ : ∃ b, b = exOk Ex s2 := ⟨_, rfl⟩
  rw [← hex] at h31
  rw [hs2'] at hex
  obtain ⟨m1, hm1⟩ : ∃ b, b = decide (M = 1) := ⟨_, rfl⟩
  have vm1 : A.eq M 1 = m1 := by rw [hA.eq, hm1]
  obtain ⟨wl, hwl⟩ : ∃ z, z = A.add l 1 := ⟨_, rfl⟩
  have hwl' : wl = l + 1 := by rw [hwl, hA.add]
  have hres : res = if m1 = false ∧ ex = false then -1 else if 200 < env + wl then -1 else wl := by
    rw [hres, ndS, hm1, hwl']
    simp only [Int.reduceEq, if_true, if_false, ← hex, decide_eq_false_iff_not, true_and, false_and, and_true, or_true, true_or, or_false, false_or, Bool.false_eq_true, gt_iff_lt, ne_eq, not_true_eq_false, not_false_eq_true]
  cases m1
  · cases ex
    · rw [if_pos ⟨rfl, rfl⟩] at hres
      clear hct hu hm1
      cbv
      repeat' first | with_reducible rfl | (simp only [lt0, lt1, k2, k3, k4, k5, k6, k7, k8, k10, l00, v0, w0, vm1, ← hs1, ← hs2]; cbv) | with_reducible refine And.intro ?_ ?_ | ((with_reducible intro hcc); first | (cases hcc; done) | skip) | ((with_reducible first | show goC _ _ _ _ _ _ _ _ | show goOps _ _ _ _ _ | show goD _ _ _ _ _ _); cbv) | ((with_reducible show okWr _ _ = _); rfl) | ((with_reducible refine hA.st [_, _, _, _, _, _, _] _ _ _ _ ⟨?_, fun ds hds => ?_⟩); rotate_left; (have hds : ds = [.int 8, .int T, .int M, .e (.sl x), .e (.sl y), .int L, .int R] := hds); subst hds; cbv) | ((with_reducible refine hA.row es i _ ⟨hi, fun row hrow => ?_⟩); rw [q1] at hrow; subst hrow; cbv) | ((with_reducible first | refine callK_f hA hP h288 ?_ ?_ ?_ | refine callK_f hA hP h289 ?_ ?_ ?_); exact rfl; exact rfl; cbv) | ((with_reducible show A.call _ _ _ _ false _ _ _ _); refine callK_no hA (.bool false) ?_; cbv) | ((with_reducible first | refine callK_f hA hP hl1 ?_ ?_ ?_ | refine callK_f hA hP h290 ?_ ?_ ?_ | refine callK_f hA hP hr1 ?_ ?_ ?_ | refine callK_f hA hP h31 ?_ ?_ ?_); exact rfl; exact rfl; cbv) | ((with_reducible first | refine hA.fin_pl _ _ _ ?_ | refine hA.len _ _ _ _ _ fun z hz hb => ?_ | refine hA.off _ _ _ _ fun b hb => ?_ | refine hA.plus _ _ _ fun b hb => ?_ | refine hA.gb0 true _ ?_ | refine hA.gb0 false _ ?_ | refine hA.gb _ _ fun vb hvb => ?_); cbv) | ((with_reducible first | refine hA.st _ _ _ _ _ ⟨?_, fun ds hds => ?_⟩ | refine hA.sapp _ _ _ ⟨?_, fun sl hsl => ?_⟩); rotate_left; cbv) | (simp only [hA.lits]; cbv)
      all_goals try simp only [hA.ar, inR, n_cast, Int.ofNat_eq_natCast, Option.getD_some, Option.getD_none] at *
      all_goals first | omega | trivial | rfl | exact gg1 _ | exact gg2 _ | exact gg3 _ | exact gg4 _ | exact gg5 _ | exact gg6 _ _ | (simp; done) | (rw [hres]; done) | (trace_state; fail)
    · rw [if_neg (by simp)] at hres
      clear hct hu hm1
      obtain ⟨ew, hew⟩ : ∃ z, z = A.add env wl := ⟨_, rfl⟩
      have hew2 : ew = env + wl := by rw [hew, hA.add]
      rw [← hew2] at hres
      by_cases h200 : 200 < ew
      · have vw : A.lt 200 ew = true := by rw [hA.lt]; exact decide_eq_true h200
        rw [if_pos h200] at hres
        cbv
        repeat' first | with_reducible rfl | (simp only [lt0, lt1, k2, k3, k4, k5, k6, k7, k8, k10, l00, v0, w0, vm1, ← hs1, ← hs2, ← hwl, ← hew, vw]; cbv) | with_reducible refine And.intro ?_ ?_ | ((with_reducible intro hcc); first | (cases hcc; done) | skip) | ((with_reducible first | show goC _ _ _ _ _ _ _ _ | show goOps _ _ _ _ _ | show goD _ _ _ _ _ _); cbv) | ((with_reducible show okWr _ _ = _); rfl) | ((with_reducible refine hA.st [_, _, _, _, _, _, _] _ _ _ _ ⟨?_, fun ds hds => ?_⟩); rotate_left; (have hds : ds = [.int 8, .int T, .int M, .e (.sl x), .e (.sl y), .int L, .int R] := hds); subst hds; cbv) | ((with_reducible refine hA.row es i _ ⟨hi, fun row hrow => ?_⟩); rw [q1] at hrow; subst hrow; cbv) | ((with_reducible first | refine callK_f hA hP h288 ?_ ?_ ?_ | refine callK_f hA hP h289 ?_ ?_ ?_); exact rfl; exact rfl; cbv) | ((with_reducible show A.call _ _ _ _ false _ _ _ _); refine callK_no hA (.bool false) ?_; cbv) | ((with_reducible first | refine callK_f hA hP hl1 ?_ ?_ ?_ | refine callK_f hA hP h290 ?_ ?_ ?_ | refine callK_f hA hP hr1 ?_ ?_ ?_ | refine callK_f hA hP h31 ?_ ?_ ?_); exact rfl; exact rfl; cbv) | ((with_reducible first | refine hA.fin_pl _ _ _ ?_ | refine hA.len _ _ _ _ _ fun z hz hb => ?_ | refine hA.off _ _ _ _ fun b hb => ?_ | refine hA.plus _ _ _ fun b hb => ?_ | refine hA.gb0 true _ ?_ | refine hA.gb0 false _ ?_ | refine hA.gb _ _ fun vb hvb => ?_); cbv) | ((with_reducible first | refine hA.st _ _ _ _ _ ⟨?_, fun ds hds => ?_⟩ | refine hA.sapp _ _ _ ⟨?_, fun sl hsl => ?_⟩); rotate_left; cbv) | (simp only [hA.lits]; cbv)
        all_goals try simp only [hA.ar, inR, n_cast, Int.ofNat_eq_natCast, Option.getD_some, Option.getD_none] at *
        all_goals first | omega | trivial | rfl | exact gg1 _ | exact gg2 _ | exact gg3 _ | exact gg4 _ | exact gg5 _ | exact gg6 _ _ | (simp; done) | (rw [hres]; done) | (trace_state; fail)
      · have vw : A.lt 200 ew = false := by rw [hA.lt]; exact decide_eq_false h200
        rw [if_neg h200] at hres
        cbv
        repeat' first | with_reducible rfl | (simp only [lt0, lt1, k2, k3, k4, k5, k6, k7, k8, k10, l00, v0, w0, vm1, ← hs1, ← hs2, ← hwl, ← hew, vw]; cbv) | with_reducible refine And.intro ?_ ?_ | ((with_reducible intro hcc); first | (cases hcc; done) | skip) | ((with_reducible first | show goC _ _ _ _ _ _ _ _ | show goOps _ _ _ _ _ | show goD _ _ _ _ _ _); cbv) | ((with_reducible show okWr _ _ = _); rfl) | ((with_reducible refine hA.st [_, _, _, _, _, _, _] _ _ _ _ ⟨?_, fun ds hds => ?_⟩); rotate_left; (have hds : ds = [.int 8, .int T, .int M, .e (.sl x), .e (.sl y), .int L, .int R] := hds); subst hds; cbv) | ((with_reducible refine hA.row es i _ ⟨hi, fun row hrow => ?_⟩); rw [q1] at hrow; subst hrow; cbv) | ((with_reducible first | refine callK_f hA hP h288 ?_ ?_ ?_ | refine callK_f hA hP h289 ?_ ?_ ?_); exact rfl; exact rfl; cbv) | ((with_reducible show A.call _ _ _ _ false _ _ _ _); refine callK_no hA (.bool false) ?_; cbv) | ((with_reducible first | refine callK_f hA hP hl1 ?_ ?_ ?_ | refine callK_f hA hP h290 ?_ ?_ ?_ | refine callK_f hA hP hr1 ?_ ?_ ?_ | refine callK_f hA hP h31 ?_ ?_ ?_); exact rfl; exact rfl; cbv) | ((with_reducible first | refine hA.fin_pl _ _ _ ?_ | refine hA.len _ _ _ _ _ fun z hz hb => ?_ | refine hA.off _ _ _ _ fun b hb => ?_ | refine hA.plus _ _ _ fun b hb => ?_ | refine hA.gb0 true _ ?_ | refine hA.gb0 false _ ?_ | refine hA.gb _ _ fun vb hvb => ?_); cbv) | ((with_reducible first | refine hA.st _ _ _ _ _ ⟨?_, fun ds hds => ?_⟩ | refine hA.sapp _ _ _ ⟨?_, fun sl hsl => ?_⟩); rotate_left; cbv) | (simp only [hA.lits]; cbv)
        all_goals try simp only [hA.ar, inR, n_cast, Int.ofNat_eq_natCast, Option.getD_some, Option.getD_none] at *
        all_goals first | omega | trivial | rfl | exact gg1 _ | exact gg2 _ | exact gg3 _ | exact gg4 _ | exact gg5 _ | exact gg6 _ _ | (simp; done) | (rw [hres]; done) | (trace_state; fail)
  · rw [if_neg (by simp)] at hres
    clear hct hu hm1
    obtain ⟨ew, hew⟩ : ∃ z, z = A.add env wl := ⟨_, rfl⟩
    have hew2 : ew = env + wl := by rw [hew, hA.add]
    rw [← hew2] at hres
    by_cases h200 : 200 < ew
    · have vw : A.lt 200 ew = true := by rw [hA.lt]; exact decide_eq_true h200
      rw [if_pos h200] at hres
      cbv
      repeat' first | with_reducible rfl | (simp only [lt0, lt1, k2, k3, k4, k5, k6, k7, k8, k10, l00, v0, w0, vm1, ← hs1, ← hs2, ← hwl, ← hew, vw]; cbv) | with_reducible refine And.intro ?_ ?_ | ((with_reducible intro hcc); first | (cases hcc; done) | skip) | ((with_reducible first | show goC _ _ _ _ _ _ _ _ | show goOps _ _ _ _ _ | show goD _ _ _ _ _ _); cbv) | ((with_reducible show okWr _ _ = _); rfl) | ((with_reducible refine hA.st [_, _, _, _, _, _, _] _ _ _ _ ⟨?_, fun ds hds => ?_⟩); rotate_left; (have hds : ds = [.int 8, .int T, .int M, .e (.sl x), .e (.sl y), .int L, .int R] := hds); subst hds; cbv) | ((with_reducible refine hA.row es i _ ⟨hi, fun row hrow => ?_⟩); rw [q1] at hrow; subst hrow; cbv) | ((with_reducible first | refine callK_f hA hP h288 ?_ ?_ ?_ | refine callK_f hA hP h289 ?_ ?_ ?_); exact rfl; exact rfl; cbv) | ((with_reducible show A.call _ _ _ _ false _ _ _ _); refine callK_no hA (.bool false) ?_; cbv) | ((with_reducible first | refine callK_f hA hP hl1 ?_ ?_ ?_ | refine callK_f hA hP h290 ?_ ?_ ?_ | refine callK_f hA hP hr1 ?_ ?_ ?_); exact rfl; exact rfl; cbv) | ((with_reducible show A.call _ _ _ _ false _ _ _ _); refine callK_no hA (.bool false) ?_; cbv) | ((with_reducible first | refine hA.fin_pl _ _ _ ?_ | refine hA.len _ _ _ _ _ fun z hz hb => ?_ | refine hA.off _ _ _ _ fun b hb => ?_ | refine hA.plus _ _ _ fun b hb => ?_ | refine hA.gb0 true _ ?_ | refine hA.gb0 false _ ?_ | refine hA.gb _ _ fun vb hvb => ?_); cbv) | ((with_reducible first | refine hA.st _ _ _ _ _ ⟨?_, fun ds hds => ?_⟩ | refine hA.sapp _ _ _ ⟨?_, fun sl hsl => ?_⟩); rotate_left; cbv) | (simp only [hA.lits]; cbv)
      all_goals try simp only [hA.ar, inR, n_cast, Int.ofNat_eq_natCast, Option.getD_some, Option.getD_none] at *
      all_goals first | omega | trivial | rfl | exact gg1 _ | exact gg2 _ | exact gg3 _ | exact gg4 _ | exact gg5 _ | exact gg6 _ _ | (simp; done) | (rw [hres]; done) | (trace_state; fail)
    · have vw : A.lt 200 ew = false := by rw [hA.lt]; exact decide_eq_false h200
      rw [if_neg h200] at hres
      cbv
      repeat' first | with_reducible rfl | (simp only [lt0, lt1, k2, k3, k4, k5, k6, k7, k8, k10, l00, v0, w0, vm1, ← hs1, ← hs2, ← hwl, ← hew, vw]; cbv) | with_reducible refine And.intro ?_ ?_ | ((with_reducible intro hcc); first | (cases hcc; done) | skip) | ((with_reducible first | show goC _ _ _ _ _ _ _ _ | show goOps _ _ _ _ _ | show goD _ _ _ _ _ _); cbv) | ((with_reducible show okWr _ _ = _); rfl) | ((with_reducible refine hA.st [_, _, _, _, _, _, _] _ _ _ _ ⟨?_, fun ds hds => ?_⟩); rotate_left; (have hds : ds = [.int 8, .int T, .int M, .e (.sl x), .e (.sl y), .int L, .int R] := hds); subst hds; cbv) | ((with_reducible refine hA.row es i _ ⟨hi, fun row hrow => ?_⟩); rw [q1] at hrow; subst hrow; cbv) | ((with_reducible first | refine callK_f hA hP h288 ?_ ?_ ?_ | refine callK_f hA hP h289 ?_ ?_ ?_); exact rfl; exact rfl; cbv) | ((with_reducible show A.call _ _ _ _ false _ _ _ _); refine callK_no hA (.bool false) ?_; cbv) | ((with_reducible first | refine callK_f hA hP hl1 ?_ ?_ ?_ | refine callK_f hA hP h290 ?_ ?_ ?_ | refine callK_f hA hP hr1 ?_ ?_ ?_); exact rfl; exact rfl; cbv) | ((with_reducible show A.call _ _ _ _ false _ _ _ _); refine callK_no hA (.bool false) ?_; cbv) | ((with_reducible first | refine hA.fin_pl _ _ _ ?_ | refine hA.len _ _ _ _ _ fun z hz hb => ?_ | refine hA.off _ _ _ _ fun b hb => ?_ | refine hA.plus _ _ _ fun b hb => ?_ | refine hA.gb0 true _ ?_ | refine hA.gb0 false _ ?_ | refine hA.gb _ _ fun vb hvb => ?_); cbv) | ((with_reducible first | refine hA.st _ _ _ _ _ ⟨?_, fun ds hds => ?_⟩ | refine hA.sapp _ _ _ ⟨?_, fun sl hsl => ?_⟩); rotate_left; cbv) | (simp only [hA.lits]; cbv)
      all_goals try simp only [hA.ar, inR, n_cast, Int.ofNat_eq_natCast, Option.getD_some, Option.getD_none] at *
      all_goals first | omega | trivial | rfl | exact gg1 _ | exact gg2 _ | exact gg3 _ | exact gg4 _ | exact gg5 _ | exact gg6 _ _ | (simp; done) | (rw [hres]; done) | (trace_state; fail))
set_option maxRecDepth 100000 in
set_option maxHeartbeats 8000000 in
theorem ok243_9 (T M : Int) (Ex : List (Int × Int)) (Exs : List (List (Int × Int))) (L R : Int) (x y es xt : List (List E)) (hx : x = Ex.map orow) (hy : y = Exs.map orr) (ts : List Tb) (hxt : xt = ts.map tbr) (hxl : x.length ≤ 1048576) (hyl : y.length ≤ 1048576) (hel : ∀ e ∈ Exs, e.length ≤ 1048576)
    (i env l r : Int) (hi : 0 ≤ i ∧ i < es.length) (q1 : es.getD i.toNat [] = [E.int 9, E.int T, E.int M, E.sl x, E.sl y, E.int L, E.int R]) (he : 0 ≤ env ∧ env ≤ 200) (hl : -1 ≤ l ∧ l ≤ 200) (hr : -1 ≤ r ∧ r ≤ 200) (hct : ∀ t : Int, 0 ≤ t → t < ts.length → 0 ≤ colsOf ts t ∧ colsOf ts t ≤ 1000)
    (hl1 : Plain Try.prog 82 [.agg [.e (.sl es)], .agg [.e (.sl xt)], .int L, .int env] (.int l))
    : Plain Try.prog 82 [.agg [.e (.sl es)], .agg [.e (.sl xt)], .int i, .int env] (.int (if usedS ⟨9, T, M, Ex, Exs, L, R⟩ ts.length = false then -1 else if l < 0 then -1 else if 0 < 0 then -1 else ndS ⟨9, T, M, Ex, Exs, L, R⟩ (colsOf ts) env l 0)) := okOf mixed p82 fun A P hA hP => (by
  obtain ⟨zy, hzy⟩ : ∃ z : Int, z = y.length := ⟨_, rfl⟩
  have hyE : y.length = Exs.length := by rw [hy]; simp
  have hxT : xt.length = ts.length := by rw [hxt]; simp
  have h289 := ok142 9 T M Ex Exs L R x y xt hx hy
  rw [hxT] at h289
  have h288 : Plain Try.prog 141 [.int 9] (.int 1) := ok141 9
  obtain ⟨u, hu⟩ : ∃ b, b = usedS ⟨9, T, M, Ex, Exs, L, R⟩ ts.length := ⟨_, rfl⟩
  rw [← hu] at h289 ⊢
  obtain ⟨res, hres⟩ : ∃ v : Int, v = if u = false then -1 else if l < 0 then -1 else if 0 < 0 then -1 else ndS ⟨9, T, M, Ex, Exs, L, R⟩ (colsOf ts) env l 0 := ⟨_, rfl⟩
  rw [← hres]
  have lt0 : A.lt 0 1 = true := by rw [hA.lt]; rfl
  have lt1 : A.lt 1 1 = false := by rw [hA.lt]; rfl
  have k2 : A.eq 9 2 = false := by rw [hA.eq]; rfl
  have k3 : A.eq 9 3 = false := by rw [hA.eq]; rfl
  have k4 : A.eq 9 4 = false := by rw [hA.eq]; rfl
  have k5 : A.eq 9 5 = false := by rw [hA.eq]; rfl
  have k6 : A.eq 9 6 = false := by rw [hA.eq]; rfl
  have k7 : A.eq 9 7 = false := by rw [hA.eq]; rfl
  have k8 : A.eq 9 8 = false := by rw [hA.eq]; rfl
  have k10 : A.eq 9 10 = false := by rw [hA.eq]; rfl
  have l00 : A.lt 0 0 = false := by rw [hA.lt]; rfl
  cases u
  case false =>
    have hr2 : res = -1 := by rw [hres, if_pos rfl]
    clear hres hct he hl hr hu
    cbv
    repeat' first | with_reducible rfl | (simp only [lt0, lt1, k2, k3, k4, k5, k6, k7, k8, k10, l00]; cbv) | with_reducible refine And.intro ?_ ?_ | ((with_reducible intro hcc); first | (cases hcc; done) | skip) | ((with_reducible first | show goC _ _ _ _ _ _ _ _ | show goOps _ _ _ _ _ | show goD _ _ _ _ _ _); cbv) | ((with_reducible show okWr _ _ = _); rfl) | ((with_reducible refine hA.st [_, _, _, _, _, _, _] _ _ _ _ ⟨?_, fun ds hds => ?_⟩); rotate_left; (have hds : ds = [.int 9, .int T, .int M, .e (.sl x), .e (.sl y), .int L, .int R] := hds); subst hds; cbv) | ((with_reducible refine hA.row es i _ ⟨hi, fun row hrow => ?_⟩); rw [q1] at hrow; subst hrow; cbv) | ((with_reducible first | refine callK_f hA hP h288 ?_ ?_ ?_ | refine callK_f hA hP h289 ?_ ?_ ?_); exact rfl; exact rfl; cbv) | ((with_reducible show A.call _ _ _ _ false _ _ _ _); refine callK_no hA (.bool false) ?_; cbv) | ((with_reducible first | refine hA.fin_pl _ _ _ ?_ | refine hA.len _ _ _ _ _ fun z hz hb => ?_ | refine hA.off _ _ _ _ fun b hb => ?_ | refine hA.plus _ _ _ fun b hb => ?_ | refine hA.gb0 true _ ?_ | refine hA.gb0 false _ ?_ | refine hA.gb _ _ fun vb hvb => ?_); cbv) | ((with_reducible first | refine hA.st _ _ _ _ _ ⟨?_, fun ds hds => ?_⟩ | refine hA.sapp _ _ _ ⟨?_, fun sl hsl => ?_⟩); rotate_left; cbv) | (simp only [hA.lits]; cbv)
    all_goals try simp only [hA.ar, inR, n_cast, Int.ofNat_eq_natCast, Option.getD_some, Option.getD_none] at *
    all_goals first | omega | trivial | rfl | exact gg1 _ | exact gg2 _ | exact gg3 _ | exact gg4 _ | exact gg5 _ | exact gg6 _ _ | (simp; done) | (rw [hr2]; done) | (trace_state; fail)
  case true =>
  rw [if_neg (by simp)] at hres
  by_cases hl0 : l < 0
  · have v0 : A.lt l 0 = true := by rw [hA.lt]; exact decide_eq_true hl0
    have hr2 : res = -1 := by rw [hres, if_pos hl0]
    clear hres hct he hl hr hu
    cbv
    repeat' first | with_reducible rfl | (simp only [lt0, lt1, k2, k3, k4, k5, k6, k7, k8, k10, l00, v0]; cbv) | with_reducible refine And.intro ?_ ?_ | ((with_reducible intro hcc); first | (cases hcc; done) | skip) | ((with_reducible first | show goC _ _ _ _ _ _ _ _ | show goOps _ _ _ _ _ | show goD _ _ _ _ _ _); cbv) | ((with_reducible show okWr _ _ = _); rfl) | ((with_reducible refine hA.st [_, _, _, _, _, _, _] _ _ _ _ ⟨?_, fun ds hds => ?_⟩); rotate_left; (have hds : ds = [.int 9, .int T, .int M, .e (.sl x), .e (.sl y), .int L, .int R] := hds); subst hds; cbv) | ((with_reducible refine hA.row es i _ ⟨hi, fun row hrow => ?_⟩); rw [q1] at hrow; subst hrow; cbv) | ((with_reducible first | refine callK_f hA hP h288 ?_ ?_ ?_ | refine callK_f hA hP h289 ?_ ?_ ?_); exact rfl; exact rfl; cbv) | ((with_reducible show A.call _ _ _ _ false _ _ _ _); refine callK_no hA (.bool false) ?_; cbv) | ((with_reducible first | refine callK_f hA hP hl1 ?_ ?_ ?_); exact rfl; exact rfl; cbv) | ((with_reducible first | refine hA.fin_pl _ _ _ ?_ | refine hA.len _ _ _ _ _ fun z hz hb => ?_ | refine hA.off _ _ _ _ fun b hb => ?_ | refine hA.plus _ _ _ fun b hb => ?_ | refine hA.gb0 true _ ?_ | refine hA.gb0 false _ ?_ | refine hA.gb _ _ fun vb hvb => ?_); cbv) | ((with_reducible first | refine hA.st _ _ _ _ _ ⟨?_, fun ds hds => ?_⟩ | refine hA.sapp _ _ _ ⟨?_, fun sl hsl => ?_⟩); rotate_left; cbv) | (simp only [hA.lits]; cbv)
    all_goals try simp only [hA.ar, inR, n_cast, Int.ofNat_eq_natCast, Option.getD_some, Option.getD_none] at *
    all_goals first | omega | trivial | rfl | exact gg1 _ | exact gg2 _ | exact gg3 _ | exact gg4 _ | exact gg5 _ | exact gg6 _ _ | (simp; done) | (rw [hr2]; done) | (trace_state; fail)
  rw [if_neg hl0] at hres
  have v0 : A.lt l 0 = false := by rw [hA.lt]; exact decide_eq_false hl0
  rw [if_neg (by omega)] at hres
  have hres : res = if 200 < env + l then -1 else l := by
    rw [hres, ndS]
    simp only [Int.reduceEq, if_true, if_false, true_and, false_and, and_true, or_true, true_or, or_false, false_or, Bool.false_eq_true, gt_iff_lt, ne_eq, not_true_eq_false, not_false_eq_true]
  clear hct hu
  obtain ⟨ew, hew⟩ : ∃ z, z = A.add env l := ⟨_, rfl⟩
  have hew2 : ew = env + l := by rw [hew, hA.add]
  rw [← hew2] at hres
  by_cases h200 : 200 < ew
  · have vw : A.lt 200 ew = true := by rw [hA.lt]; exact decide_eq_true h200
    rw [if_pos h200] at hres
    cbv
    repeat' first | with_reducible rfl | (simp only [lt0, lt1, k2, k3, k4, k5, k6, k7, k8, k10, l00, v0, ← hew, vw]; cbv) | with_reducible refine And.intro ?_ ?_ | ((with_reducible intro hcc); first | (cases hcc; done) | skip) | ((with_reducible first | show goC _ _ _ _ _ _ _ _ | show goOps _ _ _ _ _ | show goD _ _ _ _ _ _); cbv) | ((with_reducible show okWr _ _ = _); rfl) | ((with_reducible refine hA.st [_, _, _, _, _, _, _] _ _ _ _ ⟨?_, fun ds hds => ?_⟩); rotate_left; (have hds : ds = [.int 9, .int T, .int M, .e (.sl x), .e (.sl y), .int L, .int R] := hds); subst hds; cbv) | ((with_reducible refine hA.row es i _ ⟨hi, fun row hrow => ?_⟩); rw [q1] at hrow; subst hrow; cbv) | ((with_reducible first | refine callK_f hA hP h288 ?_ ?_ ?_ | refine callK_f hA hP h289 ?_ ?_ ?_); exact rfl; exact rfl; cbv) | ((with_reducible show A.call _ _ _ _ false _ _ _ _); refine callK_no hA (.bool false) ?_; cbv) | ((with_reducible first | refine callK_f hA hP hl1 ?_ ?_ ?_); exact rfl; exact rfl; cbv) | ((with_reducible first | refine hA.fin_pl _ _ _ ?_ | refine hA.len _ _ _ _ _ fun z hz hb => ?_ | refine hA.off _ _ _ _ fun b hb => ?_ | refine hA.plus _ _ _ fun b hb => ?_ | refine hA.gb0 true _ ?_ | refine hA.gb0 false _ ?_ | refine hA.gb _ _ fun vb hvb => ?_); cbv) | ((with_reducible first | refine hA.st _ _ _ _ _ ⟨?_, fun ds hds => ?_⟩ | refine hA.sapp _ _ _ ⟨?_, fun sl hsl => ?_⟩); rotate_left; cbv) | (simp only [hA.lits]; cbv)
    all_goals try simp only [hA.ar, inR, n_cast, Int.ofNat_eq_natCast, Option.getD_some, Option.getD_none] at *
    all_goals first | omega | trivial | rfl | exact gg1 _ | exact gg2 _ | exact gg3 _ | exact gg4 _ | exact gg5 _ | exact gg6 _ _ | (simp; done) | (rw [hres]; done) | (trace_state; fail)
  · have vw : A.lt 200 ew = false := by rw [hA.lt]; exact decide_eq_false h200
    rw [if_neg h200] at hres
    cbv
    repeat' first | with_reducible rfl | (simp only [lt0, lt1, k2, k3, k4, k5, k6, k7, k8, k10, l00, v0, ← hew, vw]; cbv) | with_reducible refine And.intro ?_ ?_ | ((with_reducible intro hcc); first | (cases hcc; done) | skip) | ((with_reducible first | show goC _ _ _ _ _ _ _ _ | show goOps _ _ _ _ _ | show goD _ _ _ _ _ _); cbv) | ((with_reducible show okWr _ _ = _); rfl) | ((with_reducible refine hA.st [_, _, _, _, _, _, _] _ _ _ _ ⟨?_, fun ds hds => ?_⟩); rotate_left; (have hds : ds = [.int 9, .int T, .int M, .e (.sl x), .e (.sl y), .int L, .int R] := hds); subst hds; cbv) | ((with_reducible refine hA.row es i _ ⟨hi, fun row hrow => ?_⟩); rw [q1] at hrow; subst hrow; cbv) | ((with_reducible first | refine callK_f hA hP h288 ?_ ?_ ?_ | refine callK_f hA hP h289 ?_ ?_ ?_); exact rfl; exact rfl; cbv) | ((with_reducible show A.call _ _ _ _ false _ _ _ _); refine callK_no hA (.bool false) ?_; cbv) | ((with_reducible first | refine callK_f hA hP hl1 ?_ ?_ ?_); exact rfl; exact rfl; cbv) | ((with_reducible first | refine hA.fin_pl _ _ _ ?_ | refine hA.len _ _ _ _ _ fun z hz hb => ?_ | refine hA.off _ _ _ _ fun b hb => ?_ | refine hA.plus _ _ _ fun b hb => ?_ | refine hA.gb0 true _ ?_ | refine hA.gb0 false _ ?_ | refine hA.gb _ _ fun vb hvb => ?_); cbv) | ((with_reducible first | refine hA.st _ _ _ _ _ ⟨?_, fun ds hds => ?_⟩ | refine hA.sapp _ _ _ ⟨?_, fun sl hsl => ?_⟩); rotate_left; cbv) | (simp only [hA.lits]; cbv)
    all_goals try simp only [hA.ar, inR, n_cast, Int.ofNat_eq_natCast, Option.getD_some, Option.getD_none] at *
    all_goals first | omega | trivial | rfl | exact gg1 _ | exact gg2 _ | exact gg3 _ | exact gg4 _ | exact gg5 _ | exact gg6 _ _ | (simp; done) | (rw [hres]; done) | (trace_state; fail))
set_option maxRecDepth 100000 in
set_option maxHeartbeats 8000000 in
theorem ok243_10 (T M : Int) (Ex : List (Int × Int)) (Exs : List (List (Int × Int))) (L R : Int) (x y es xt : List (List E)) (hx : x = Ex.map orow) (hy : y = Exs.map orr) (ts : List Tb) (hxt : xt = ts.map tbr) (hxl : x.length ≤ 1048576) (hyl : y.length ≤ 1048576) (hel : ∀ e ∈ Exs, e.length ≤ 1048576)
    (i env l r : Int) (hi : 0 ≤ i ∧ i < es.length) (q1 : es.getD i.toNat [] = [E.int 10, E.int T, E.int M, E.sl x, E.sl y, E.int L, E.int R]) (he : 0 ≤ env ∧ env ≤ 200) (hl : -1 ≤ l ∧ l ≤ 200) (hr : -1 ≤ r ∧ r ≤ 200) (hct : ∀ t : Int, 0 ≤ t → t < ts.length → 0 ≤ colsOf ts t ∧ colsOf ts t ≤ 1000)
    (hl1 : Plain Try.prog 82 [.agg [.e (.sl es)], .agg [.e (.sl xt)], .int L, .int env] (.int l))
    (hr1 : usedS ⟨10, T, M, Ex, Exs, L, R⟩ ts.length = true → 0 ≤ l → Plain Try.prog 82 [.agg [.e (.sl es)], .agg [.e (.sl xt)], .int R, .int (env)] (.int r))
    : Plain Try.prog 82 [.agg [.e (.sl es)], .agg [.e (.sl xt)], .int i, .int env] (.int (if usedS ⟨10, T, M, Ex, Exs, L, R⟩ ts.length = false then -1 else if l < 0 then -1 else if r < 0 then -1 else ndS ⟨10, T, M, Ex, Exs, L, R⟩ (colsOf ts) env l r)) := okOf mixed p82 fun A P hA hP => (by
  obtain ⟨zy, hzy⟩ : ∃ z : Int, z = y.length := ⟨_, rfl⟩
  have hyE : y.length = Exs.length := by rw [hy]; simp
  have hxT : xt.length = ts.length := by rw [hxt]; simp
  have h289 := ok142 10 T M Ex Exs L R x y xt hx hy
  rw [hxT] at h289
  have h288 : Plain Try.prog 141 [.int 10] (.int 2) := ok141 10
  obtain ⟨u, hu⟩ : ∃ b, b = usedS ⟨10, T, M, Ex, Exs, L, R⟩ ts.length := ⟨_, rfl⟩
  rw [← hu] at h289 ⊢
  rw [← hu] at hr1
  obtain ⟨res, hres⟩ : ∃ v : Int, v = if u = false then -1 else if l < 0 then -1 else if r < 0 then -1 else ndS ⟨10, T, M, Ex, Exs, L, R⟩ (colsOf ts) env l r := ⟨_, rfl⟩
  rw [← hres]
  have lt0 : A.lt 0 2 = true := by rw [hA.lt]; rfl
  have lt1 : A.lt 1 2 = true := by rw [hA.lt]; rfl
  have k2 : A.eq 10 2 = false := by rw [hA.eq]; rfl
  have k3 : A.eq 10 3 = false := by rw [hA.eq]; rfl
  have k4 : A.eq 10 4 = false := by rw [hA.eq]; rfl
  have k5 : A.eq 10 5 = false := by rw [hA.eq]; rfl
  have k6 : A.eq 10 6 = false := by rw [hA.eq]; rfl
  have k7 : A.eq 10 7 = false := by rw [hA.eq]; rfl
  have k8 : A.eq 10 8 = false := by rw [hA.eq]; rfl
  have k10 : A.eq 10 10 = true := by rw [hA.eq]; rfl
  have l00 : A.lt 0 0 = false := by rw [hA.lt]; rfl
  cases u
  case false =>
    have hr2 : res = -1 := by rw [hres, if_pos rfl]
    clear hres hct he hl hr hu hr1
    cbv
    repeat' first | with_reducible rfl | (simp only [lt0, lt1, k2, k3, k4, k5, k6, k7, k8, k10, l00]; cbv) | with_reducible refine And.intro ?_ ?_ | ((with_reducible intro hcc); first | (cases hcc; done) | skip) | ((with_reducible first | show goC _ _ _ _ _ _ _ _ | show goOps _ _ _ _ _ | show goD _ _ _ _ _ _); cbv) | ((with_reducible show okWr _ _ = _); rfl) | ((with_reducible refine hA.st [_, _, _, _, _, _, _] _ _ _ _ ⟨?_, fun ds hds => ?_⟩); rotate_left; (have hds : ds = [.int 10, .int T, .int M, .e (.sl x), .e (.sl y), .int L, .int R] := hds); subst hds; cbv) | ((with_reducible refine hA.row es i _ ⟨hi, fun row hrow => ?_⟩); rw [q1] at hrow; subst hrow; cbv) | ((with_reducible first | refine callK_f hA hP h288 ?_ ?_ ?_ | refine callK_f hA hP h289 ?_ ?_ ?_); exact rfl; exact rfl; cbv) | ((with_reducible show A.call _ _ _ _ false _ _ _ _); refine callK_no hA (.bool false) ?_; cbv) | ((with_reducible first | refine hA.fin_pl _ _ _ ?_ | refine hA.len _ _ _ _ _ fun z hz hb => ?_ | refine hA.off _ _ _ _ fun b hb => ?_ | refine hA.plus _ _ _ fun b hb => ?_ | refine hA.gb0 true _ ?_ | refine hA.gb0 false _ ?_ | refine hA.gb _ _ fun vb hvb => ?_); cbv) | ((with_reducible first | refine hA.st _ _ _ _ _ ⟨?_, fun ds hds => ?_⟩ | refine hA.sapp _ _ _ ⟨?_, fun sl hsl => ?_⟩); rotate_left; cbv) | (simp only [hA.lits]; cbv)
    all_goals try simp only [hA.ar, inR, n_cast, Int.ofNat_eq_natCast, Option.getD_some, Option.getD_none] at *
    all_goals first | omega | trivial | rfl | exact gg1 _ | exact gg2 _ | exact gg3 _ | exact gg4 _ | exact gg5 _ | exact gg6 _ _ | (simp; done) | (rw [hr2]; done) | (trace_state; fail)
  case true =>
  rw [if_neg (by simp)] at hres
  by_cases hl0 : l < 0
  · have v0 : A.lt l 0 = true := by rw [hA.lt]; exact decide_eq_true hl0
    have hr2 : res = -1 := by rw [hres, if_pos hl0]
    clear hres hct he hl hr hu hr1
    cbv
    repeat' first | with_reducible rfl | (simp only [lt0, lt1, k2, k3, k4, k5, k6, k7, k8, k10, l00, v0]; cbv) | with_reducible refine And.intro ?_ ?_ | ((with_reducible intro hcc); first | (cases hcc; done) | skip) | ((with_reducible first | show goC _ _ _ _ _ _ _ _ | show goOps _ _ _ _ _ | show goD _ _ _ _ _ _); cbv) | ((with_reducible show okWr _ _ = _); rfl) | ((with_reducible refine hA.st [_, _, _, _, _, _, _] _ _ _ _ ⟨?_, fun ds hds => ?_⟩); rotate_left; (have hds : ds = [.int 10, .int T, .int M, .e (.sl x), .e (.sl y), .int L, .int R] := hds); subst hds; cbv) | ((with_reducible refine hA.row es i _ ⟨hi, fun row hrow => ?_⟩); rw [q1] at hrow; subst hrow; cbv) | ((with_reducible first | refine callK_f hA hP h288 ?_ ?_ ?_ | refine callK_f hA hP h289 ?_ ?_ ?_); exact rfl; exact rfl; cbv) | ((with_reducible show A.call _ _ _ _ false _ _ _ _); refine callK_no hA (.bool false) ?_; cbv) | ((with_reducible first | refine callK_f hA hP hl1 ?_ ?_ ?_); exact rfl; exact rfl; cbv) | ((with_reducible first | refine hA.fin_pl _ _ _ ?_ | refine hA.len _ _ _ _ _ fun z hz hb => ?_ | refine hA.off _ _ _ _ fun b hb => ?_ | refine hA.plus _ _ _ fun b hb => ?_ | refine hA.gb0 true _ ?_ | refine hA.gb0 false _ ?_ | refine hA.gb _ _ fun vb hvb => ?_); cbv) | ((with_reducible first | refine hA.st _ _ _ _ _ ⟨?_, fun ds hds => ?_⟩ | refine hA.sapp _ _ _ ⟨?_, fun sl hsl => ?_⟩); rotate_left; cbv) | (simp only [hA.lits]; cbv)
    all_goals try simp only [hA.ar, inR, n_cast, Int.ofNat_eq_natCast, Option.getD_some, Option.getD_none] at *
    all_goals first | omega | trivial | rfl | exact gg1 _ | exact gg2 _ | exact gg3 _ | exact gg4 _ | exact gg5 _ | exact gg6 _ _ | (simp; done) | (rw [hr2]; done) | (trace_state; fail)
  rw [if_neg hl0] at hres
  have v0 : A.lt l 0 = false := by rw [hA.lt]; exact decide_eq_false hl0
  have hr1 := hr1 rfl (by omega)
  have h290 : Plain Try.prog 143 [.int 10, .int env, .int l] (.int (env)) := ok143 10 env l (by omega)
  by_cases hr0 : r < 0
  · have w0 : A.lt r 0 = true := by rw [hA.lt]; exact decide_eq_true hr0
    have hr2 : res = -1 := by rw [hres, if_pos hr0]
    clear hres hct he hl hr hu
    cbv
    repeat' first | with_reducible rfl | (simp only [lt0, lt1, k2, k3, k4, k5, k6, k7, k8, k10, l00, v0, w0]; cbv) | with_reducible refine And.intro ?_ ?_ | ((with_reducible intro hcc); first | (cases hcc; done) | skip) | ((with_reducible first | show goC _ _ _ _ _ _ _ _ | show goOps _ _ _ _ _ | show goD _ _ _ _ _ _); cbv) | ((with_reducible show okWr _ _ = _); rfl) | ((with_reducible refine hA.st [_, _, _, _, _, _, _] _ _ _ _ ⟨?_, fun ds hds => ?_⟩); rotate_left; (have hds : ds = [.int 10, .int T, .int M, .e (.sl x), .e (.sl y), .int L, .int R] := hds); subst hds; cbv) | ((with_reducible refine hA.row es i _ ⟨hi, fun row hrow => ?_⟩); rw [q1] at hrow; subst hrow; cbv) | ((with_reducible first | refine callK_f hA hP h288 ?_ ?_ ?_ | refine callK_f hA hP h289 ?_ ?_ ?_); exact rfl; exact rfl; cbv) | ((with_reducible show A.call _ _ _ _ false _ _ _ _); refine callK_no hA (.bool false) ?_; cbv) | ((with_reducible first | refine callK_f hA hP hl1 ?_ ?_ ?_ | refine callK_f hA hP h290 ?_ ?_ ?_ | refine callK_f hA hP hr1 ?_ ?_ ?_); exact rfl; exact rfl; cbv) | ((with_reducible first | refine hA.fin_pl _ _ _ ?_ | refine hA.len _ _ _ _ _ fun z hz hb => ?_ | refine hA.off _ _ _ _ fun b hb => ?_ | refine hA.plus _ _ _ fun b hb => ?_ | refine hA.gb0 true _ ?_ | refine hA.gb0 false _ ?_ | refine hA.gb _ _ fun vb hvb => ?_); cbv) | ((with_reducible first | refine hA.st _ _ _ _ _ ⟨?_, fun ds hds => ?_⟩ | refine hA.sapp _ _ _ ⟨?_, fun sl hsl => ?_⟩); rotate_left; cbv) | (simp only [hA.lits]; cbv)
    all_goals try simp only [hA.ar, inR, n_cast, Int.ofNat_eq_natCast, Option.getD_some, Option.getD_none] at *
    all_goals first | omega | trivial | rfl | exact gg1 _ | exact gg2 _ | exact gg3 _ | exact gg4 _ | exact gg5 _ | exact gg6 _ _ | (simp; done) | (rw [hr2]; done) | (trace_state; fail)
  rw [if_neg hr0] at hres
  have w0 : A.lt r 0 = false := by rw [hA.lt]; exact decide_eq_false hr0
  obtain ⟨lr, hlr⟩ : ∃ b, b = decide (l = r) := ⟨_, rfl⟩
  have vlr : A.eq l r = lr := by rw [hA.eq, hlr]
  have hres : res = if lr = false then -1 else if 200 < env + l then -1 else l := by
    rw [hres, ndS, hlr]
    simp only [Int.reduceEq, if_true, if_false, decide_eq_false_iff_not, true_and, false_and, and_true, or_true, true_or, or_false, false_or, Bool.false_eq_true, gt_iff_lt, ne_eq, not_true_eq_false, not_false_eq_true]
  clear hct hu hlr
  cases lr
  · rw [if_pos rfl] at hres
    cbv
    repeat' first | with_reducible rfl | (simp only [lt0, lt1, k2, k3, k4, k5, k6, k7, k8, k10, l00, v0, w0, vlr]; cbv) | with_reducible refine And.intro ?_ ?_ | ((with_reducible intro hcc); first | (cases hcc; done) | skip) | ((with_reducible first | show goC _ _ _ _ _ _ _ _ | show goOps _ _ _ _ _ | show goD _ _ _ _ _ _); cbv) | ((with_reducible show okWr _ _ = _); rfl) | ((with_reducible refine hA.st [_, _, _, _, _, _, _] _ _ _ _ ⟨?_, fun ds hds => ?_⟩); rotate_left; (have hds : ds = [.int 10, .int T, .int M, .e (.sl x), .e (.sl y), .int L, .int R] := hds); subst hds; cbv) | ((with_reducible refine hA.row es i _ ⟨hi, fun row hrow => ?_⟩); rw [q1] at hrow; subst hrow; cbv) | ((with_reducible first | refine callK_f hA hP h288 ?_ ?_ ?_ | refine callK_f hA hP h289 ?_ ?_ ?_); exact rfl; exact rfl; cbv) | ((with_reducible show A.call _ _ _ _ false _ _ _ _); refine callK_no hA (.bool false) ?_; cbv) | ((with_reducible first | refine callK_f hA hP hl1 ?_ ?_ ?_ | refine callK_f hA hP h290 ?_ ?_ ?_ | refine callK_f hA hP hr1 ?_ ?_ ?_); exact rfl; exact rfl; cbv) | ((with_reducible first | refine hA.fin_pl _ _ _ ?_ | refine hA.len _ _ _ _ _ fun z hz hb => ?_ | refine hA.off _ _ _ _ fun b hb => ?_ | refine hA.plus _ _ _ fun b hb => ?_ | refine hA.gb0 true _ ?_ | refine hA.gb0 false _ ?_ | refine hA.gb _ _ fun vb hvb => ?_); cbv) | ((with_reducible first | refine hA.st _ _ _ _ _ ⟨?_, fun ds hds => ?_⟩ | refine hA.sapp _ _ _ ⟨?_, fun sl hsl => ?_⟩); rotate_left; cbv) | (simp only [hA.lits]; cbv)
    all_goals try simp only [hA.ar, inR, n_cast, Int.ofNat_eq_natCast, Option.getD_some, Option.getD_none] at *
    all_goals first | omega | trivial | rfl | exact gg1 _ | exact gg2 _ | exact gg3 _ | exact gg4 _ | exact gg5 _ | exact gg6 _ _ | (simp; done) | (rw [hres]; done) | (trace_state; fail)
  · rw [if_neg (by simp)] at hres
    obtain ⟨ew, hew⟩ : ∃ z, z = A.add env l := ⟨_, rfl⟩
    have hew2 : ew = env + l := by rw [hew, hA.add]
    rw [← hew2] at hres
    by_cases h200 : 200 < ew
    · have vw : A.lt 200 ew = true := by rw [hA.lt]; exact decide_eq_true h200
      rw [if_pos h200] at hres
      cbv
      repeat' first | with_reducible rfl | (simp only [lt0, lt1, k2, k3, k4, k5, k6, k7, k8, k10, l00, v0, w0, vlr, ← hew, vw]; cbv) | with_reducible refine And.intro ?_ ?_ | ((with_reducible intro hcc); first | (cases hcc; done) | skip) | ((with_reducible first | show goC _ _ _ _ _ _ _ _ | show goOps _ _ _ _ _ | show goD _ _ _ _ _ _); cbv) | ((with_reducible show okWr _ _ = _); rfl) | ((with_reducible refine hA.st [_, _, _, _, _, _, _] _ _ _ _ ⟨?_, fun ds hds => ?_⟩); rotate_left; (have hds : ds = [.int 10, .int T, .int M, .e (.sl x), .e (.sl y), .int L, .int R] := hds); subst hds; cbv) | ((with_reducible refine hA.row es i _ ⟨hi, fun row hrow => ?_⟩); rw [q1] at hrow; subst hrow; cbv) | ((with_reducible first | refine callK_f hA hP h288 ?_ ?_ ?_ | refine callK_f hA hP h289 ?_ ?_ ?_); exact rfl; exact rfl; cbv) | ((with_reducible show A.call _ _ _ _ false _ _ _ _); refine callK_no hA (.bool false) ?_; cbv) | ((with_reducible first | refine callK_f hA hP hl1 ?_ ?_ ?_ | refine callK_f hA hP h290 ?_ ?_ ?_ | refine callK_f hA hP hr1 ?_ ?_ ?_); exact rfl; exact rfl; cbv) | ((with_reducible first | refine hA.fin_pl _ _ _ ?_ | refine hA.len _ _ _ _ _ fun z hz hb => ?_ | refine hA.off _ _ _ _ fun b hb => ?_ | refine hA.plus _ _ _ fun b hb => ?_ | refine hA.gb0 true _ ?_ | refine hA.gb0 false _ ?_ | refine hA.gb _ _ fun vb hvb => ?_); cbv) | ((with_reducible first | refine hA.st _ _ _ _ _ ⟨?_, fun ds hds => ?_⟩ | refine hA.sapp _ _ _ ⟨?_, fun sl hsl => ?_⟩); rotate_left; cbv) | (simp only [hA.lits]; cbv)
      all_goals try simp only [hA.ar, inR, n_cast, Int.ofNat_eq_natCast, Option.getD_some, Option.getD_none] at *
      all_goals first | omega | trivial | rfl | exact gg1 _ | exact gg2 _ | exact gg3 _ | exact gg4 _ | exact gg5 _ | exact gg6 _ _ | (simp; done) | (rw [hres]; done) | (trace_state; fail)
    · have vw : A.lt 200 ew = false := by rw [hA.lt]; exact decide_eq_false h200
      rw [if_neg h200] at hres
      cbv
      repeat' first | with_reducible rfl | (simp only [lt0, lt1, k2, k3, k4, k5, k6, k7, k8, k10, l00, v0, w0, vlr, ← hew, vw]; cbv) | with_reducible refine And.intro ?_ ?_ | ((with_reducible intro hcc); first | (cases hcc; done) | skip) | ((with_reducible first | show goC _ _ _ _ _ _ _ _ | show goOps _ _ _ _ _ | show goD _ _ _ _ _ _); cbv) | ((with_reducible show okWr _ _ = _); rfl) | ((with_reducible refine hA.st [_, _, _, _, _, _, _] _ _ _ _ ⟨?_, fun ds hds => ?_⟩); rotate_left; (have hds : ds = [.int 10, .int T, .int M, .e (.sl x), .e (.sl y), .int L, .int R] := hds); subst hds; cbv) | ((with_reducible refine hA.row es i _ ⟨hi, fun row hrow => ?_⟩); rw [q1] at hrow; subst hrow; cbv) | ((with_reducible first | refine callK_f hA hP h288 ?_ ?_ ?_ | refine callK_f hA hP h289 ?_ ?_ ?_); exact rfl; exact rfl; cbv) | ((with_reducible show A.call _ _ _ _ false _ _ _ _); refine callK_no hA (.bool false) ?_; cbv) | ((with_reducible first | refine callK_f hA hP hl1 ?_ ?_ ?_ | refine callK_f hA hP h290 ?_ ?_ ?_ | refine callK_f hA hP hr1 ?_ ?_ ?_); exact rfl; exact rfl; cbv) | ((with_reducible first | refine hA.fin_pl _ _ _ ?_ | refine hA.len _ _ _ _ _ fun z hz hb => ?_ | refine hA.off _ _ _ _ fun b hb => ?_ | refine hA.plus _ _ _ fun b hb => ?_ | refine hA.gb0 true _ ?_ | refine hA.gb0 false _ ?_ | refine hA.gb _ _ fun vb hvb => ?_); cbv) | ((with_reducible first | refine hA.st _ _ _ _ _ ⟨?_, fun ds hds => ?_⟩ | refine hA.sapp _ _ _ ⟨?_, fun sl hsl => ?_⟩); rotate_left; cbv) | (simp only [hA.lits]; cbv)
      all_goals try simp only [hA.ar, inR, n_cast, Int.ofNat_eq_natCast, Option.getD_some, Option.getD_none] at *
      all_goals first | omega | trivial | rfl | exact gg1 _ | exact gg2 _ | exact gg3 _ | exact gg4 _ | exact gg5 _ | exact gg6 _ _ | (simp; done) | (rw [hres]; done) | (trace_state; fail))
end Go.Proofs.Ytfplalbognalkaa.Ab
/- Plans: the operator of a node, by the program. -/
namespace Go.Proofs.Ytfplalbognalkaa.Ab
open Go
def optE : Option Ot → E
  | none => .v .nilIface
  | some o => o.E
set_option maxRecDepth 100000 in
set_option maxHeartbeats 8000000 in
theorem ok323_1 (T M : Int) (Ex : List (Int × Int)) (Exs : List (List (Int × Int))) (L R : Int) (x y es xt xst : List (List E)) (hx : x = Ex.map orow) (hy : y = Exs.map orr) (ts : List Tb) (hxt : xt = ts.map tbr) (hxl : x.length ≤ 1048576) (hyl : y.length ≤ 1048576) (hel : ∀ e ∈ Exs, e.length ≤ 1048576) (env : Int) (he : 0 ≤ env ∧ env ≤ 400) (l : Ot) (e1 : E) (r : Ot) (e2 : E) :
    Plain Try.prog 189 [.agg [.e (.sl es), .e (.sl xt), .e (.sl xst)], .agg [.int 1, .int T, .int M, .e (.sl x), .e (.sl y), .int L, .int R], .int env, .e (e1), .e (e2)] (.e (optE (ndO ⟨1, T, M, Ex, Exs, L, R⟩ ts env l r))) := okOf mixed p189 fun A P hA hP => (by
  obtain ⟨res, hres⟩ : ∃ e, e = optE (ndO ⟨1, T, M, Ex, Exs, L, R⟩ ts env l r) := ⟨_, rfl⟩
  rw [← hres]
  have k1 : A.eq 1 1 = true := by rw [hA.eq]; rfl
  have k2 : A.eq 1 2 = false := by rw [hA.eq]; rfl
  have k3 : A.eq 1 3 = false := by rw [hA.eq]; rfl
  have k4 : A.eq 1 4 = false := by rw [hA.eq]; rfl
  have k5 : A.eq 1 5 = false := by rw [hA.eq]; rfl
  have k6 : A.eq 1 6 = false := by rw [hA.eq]; rfl
  have k7 : A.eq 1 7 = false := by rw [hA.eq]; rfl
  have k8 : A.eq 1 8 = false := by rw [hA.eq]; rfl
  have k9 : A.eq 1 9 = false := by rw [hA.eq]; rfl
  have k10 : A.eq 1 10 = false := by rw [hA.eq]; rfl
  have hres : res = .ia 228 [] := by
    rw [hres, ndO]
    simp only [Int.reduceEq, if_true, if_false, optE, Ot.E, decide_true, decide_false, Int.reduceEq, true_and, false_and, and_true, or_true, true_or, or_false, false_or, Bool.false_eq_true]
  cbv
  repeat' first | with_reducible rfl | (simp only [k1, k2, k3, k4, k5, k6, k7, k8, k9, k10]; cbv) | with_reducible refine And.intro ?_ ?_ | ((with_reducible intro hcc); first | (cases hcc; done) | skip) | ((with_reducible first | show goC _ _ _ _ _ _ _ _ | show goOps _ _ _ _ _ | show goD _ _ _ _ _ _); cbv) | ((with_reducible show okWr _ _ = _); rfl) | ((with_reducible first | refine hA.fin_pl _ _ _ ?_ | refine hA.len _ _ _ _ _ fun z hz hb => ?_ | refine hA.off _ _ _ _ fun b hb => ?_ | refine hA.plus _ _ _ fun b hb => ?_ | refine hA.gb0 true _ ?_ | refine hA.gb0 false _ ?_ | refine hA.gb _ _ fun vb hvb => ?_); cbv) | ((with_reducible first | refine hA.sapp _ _ _ ⟨?_, fun sl hsl => ?_⟩); rotate_left; cbv) | (simp only [hA.lits]; cbv)
  all_goals try simp only [hA.ar, inR, n_cast, Int.ofNat_eq_natCast, Option.getD_some, Option.getD_none] at *
  all_goals first | omega | rfl | trivial | exact gg1 _ | exact gg2 _ | exact gg3 _ | exact gg4 _ | exact gg5 _ | (rw [hres]; done) | (trace_state; fail))
set_option maxRecDepth 100000 in
set_option maxHeartbeats 8000000 in
theorem ok323_2 (T M : Int) (Ex : List (Int × Int)) (Exs : List (List (Int × Int))) (L R : Int) (x y es xt xst : List (List E)) (hx : x = Ex.map orow) (hy : y = Exs.map orr) (ts : List Tb) (hxt : xt = ts.map tbr) (hxl : x.length ≤ 1048576) (hyl : y.length ≤ 1048576) (hel : ∀ e ∈ Exs, e.length ≤ 1048576) (env : Int) (he : 0 ≤ env ∧ env ≤ 400) (l : Ot) (e1 : E) (r : Ot) (e2 : E) :
    Plain Try.prog 189 [.agg [.e (.sl es), .e (.sl xt), .e (.sl xst)], .agg [.int 2, .int T, .int M, .e (.sl x), .e (.sl y), .int L, .int R], .int env, .e (e1), .e (e2)] (.e (optE (ndO ⟨2, T, M, Ex, Exs, L, R⟩ ts env l r))) := okOf mixed p189 fun A P hA hP => (by
  obtain ⟨res, hres⟩ : ∃ e, e = optE (ndO ⟨2, T, M, Ex, Exs, L, R⟩ ts env l r) := ⟨_, rfl⟩
  rw [← hres]
  have k1 : A.eq 2 1 = false := by rw [hA.eq]; rfl
  have k2 : A.eq 2 2 = true := by rw [hA.eq]; rfl
  have k3 : A.eq 2 3 = false := by rw [hA.eq]; rfl
  have k4 : A.eq 2 4 = false := by rw [hA.eq]; rfl
  have k5 : A.eq 2 5 = false := by rw [hA.eq]; rfl
  have k6 : A.eq 2 6 = false := by rw [hA.eq]; rfl
  have k7 : A.eq 2 7 = false := by rw [hA.eq]; rfl
  have k8 : A.eq 2 8 = false := by rw [hA.eq]; rfl
  have k9 : A.eq 2 9 = false := by rw [hA.eq]; rfl
  have k10 : A.eq 2 10 = false := by rw [hA.eq]; rfl
  obtain ⟨zt, hzt⟩ : ∃ z : Int, z = xt.length := ⟨_, rfl⟩
  have hxT : xt.length = ts.length := by rw [hxt]; simp
  have hres : res = if T < 0 ∨ zt ≤ T then .v .nilIface else .ia 230 (tbr (ts.getD T.toNat ([], 0, []))) := by
    rw [hres, ndO]
    simp only [Int.reduceEq, if_true, if_false, hzt, hxT, true_and, false_and, and_true, or_true, true_or, or_false, false_or, Bool.false_eq_true]
    split <;> simp [optE, Ot.E]
  by_cases h1 : T < 0
  · have v1 : A.lt T 0 = true := by rw [hA.lt]; exact decide_eq_true h1
    rw [if_pos (.inl h1)] at hres
    cbv
    repeat' first | with_reducible rfl | (simp only [k1, k2, k3, k4, k5, k6, k7, k8, k9, k10, v1]; cbv) | with_reducible refine And.intro ?_ ?_ | ((with_reducible intro hcc); first | (cases hcc; done) | skip) | ((with_reducible first | show goC _ _ _ _ _ _ _ _ | show goOps _ _ _ _ _ | show goD _ _ _ _ _ _); cbv) | ((with_reducible show okWr _ _ = _); rfl) | ((with_reducible refine hA.len xt _ _ _ _ fun z hz hb => ?_); (have e6 := hzt.trans hz.symm); subst e6; cbv) | ((with_reducible first | refine hA.fin_pl _ _ _ ?_ | refine hA.len _ _ _ _ _ fun z hz hb => ?_ | refine hA.off _ _ _ _ fun b hb => ?_ | refine hA.plus _ _ _ fun b hb => ?_ | refine hA.gb0 true _ ?_ | refine hA.gb0 false _ ?_ | refine hA.gb _ _ fun vb hvb => ?_); cbv) | ((with_reducible first | refine hA.sapp _ _ _ ⟨?_, fun sl hsl => ?_⟩); rotate_left; cbv) | (simp only [hA.lits]; cbv)
    all_goals try simp only [hA.ar, inR, n_cast, Int.ofNat_eq_natCast, Option.getD_some, Option.getD_none] at *
    all_goals first | omega | rfl | trivial | exact gg1 _ | exact gg2 _ | exact gg3 _ | exact gg4 _ | exact gg5 _ | (rw [hres]; done) | (trace_state; fail)
  have v1 : A.lt T 0 = false := by rw [hA.lt]; exact decide_eq_false h1
  by_cases h2 : zt ≤ T
  · have v2 : A.le zt T = true := by rw [hA.le]; exact decide_eq_true h2
    rw [if_pos (.inr h2)] at hres
    cbv
    repeat' first | with_reducible rfl | (simp only [k1, k2, k3, k4, k5, k6, k7, k8, k9, k10, v1, v2]; cbv) | with_reducible refine And.intro ?_ ?_ | ((with_reducible intro hcc); first | (cases hcc; done) | skip) | ((with_reducible first | show goC _ _ _ _ _ _ _ _ | show goOps _ _ _ _ _ | show goD _ _ _ _ _ _); cbv) | ((with_reducible show okWr _ _ = _); rfl) | ((with_reducible refine hA.len xt _ _ _ _ fun z hz hb => ?_); (have e6 := hzt.trans hz.symm); subst e6; cbv) | ((with_reducible first | refine hA.fin_pl _ _ _ ?_ | refine hA.len _ _ _ _ _ fun z hz hb => ?_ | refine hA.off _ _ _ _ fun b hb => ?_ | refine hA.plus _ _ _ fun b hb => ?_ | refine hA.gb0 true _ ?_ | refine hA.gb0 false _ ?_ | refine hA.gb _ _ fun vb hvb => ?_); cbv) | ((with_reducible first | refine hA.sapp _ _ _ ⟨?_, fun sl hsl => ?_⟩); rotate_left; cbv) | (simp only [hA.lits]; cbv)
    all_goals try simp only [hA.ar, inR, n_cast, Int.ofNat_eq_natCast, Option.getD_some, Option.getD_none] at *
    all_goals first | omega | rfl | trivial | exact gg1 _ | exact gg2 _ | exact gg3 _ | exact gg4 _ | exact gg5 _ | (rw [hres]; done) | (trace_state; fail)
  have v2 : A.le zt T = false := by rw [hA.le]; exact decide_eq_false h2
  have hT : (0 : Int) ≤ T ∧ T < xt.length := by omega
  obtain ⟨p, q1, q2⟩ := row_at hxt hT
  rw [if_neg (by omega), show ts.getD T.toNat ([], 0, []) = p by simp [List.getD, q2]] at hres
  obtain ⟨⟨ps, pc, pr⟩, hp⟩ : ∃ q, q = p := ⟨_, rfl⟩
  rw [← hp] at q1 hres
  obtain ⟨px, hpx⟩ : ∃ s, s = pr.map rsr := ⟨_, rfl⟩
  have q3 : xt.getD T.toNat [] = [E.str ps, E.int pc, E.sl px] := by rw [q1, hpx]
  have hres : res = .ia 230 [E.str ps, E.int pc, E.sl px] := by rw [hres, hpx]
  cbv
  repeat' first | with_reducible rfl | (simp only [k1, k2, k3, k4, k5, k6, k7, k8, k9, k10, v1, v2]; cbv) | with_reducible refine And.intro ?_ ?_ | ((with_reducible intro hcc); first | (cases hcc; done) | skip) | ((with_reducible first | show goC _ _ _ _ _ _ _ _ | show goOps _ _ _ _ _ | show goD _ _ _ _ _ _); cbv) | ((with_reducible show okWr _ _ = _); rfl) | ((with_reducible refine hA.len xt _ _ _ _ fun z hz hb => ?_); (have e6 := hzt.trans hz.symm); subst e6; cbv) | ((with_reducible refine hA.row xt T _ ⟨hT, fun row hrow => ?_⟩); rw [q3] at hrow; subst hrow; cbv) | ((with_reducible first | refine hA.fin_pl _ _ _ ?_ | refine hA.len _ _ _ _ _ fun z hz hb => ?_ | refine hA.off _ _ _ _ fun b hb => ?_ | refine hA.plus _ _ _ fun b hb => ?_ | refine hA.gb0 true _ ?_ | refine hA.gb0 false _ ?_ | refine hA.gb _ _ fun vb hvb => ?_); cbv) | ((with_reducible first | refine hA.sapp _ _ _ ⟨?_, fun sl hsl => ?_⟩); rotate_left; cbv) | (simp only [hA.lits]; cbv)
  all_goals try simp only [hA.ar, inR, n_cast, Int.ofNat_eq_natCast, Option.getD_some, Option.getD_none] at *
  all_goals first | omega | rfl | trivial | exact gg1 _ | exact gg2 _ | exact gg3 _ | exact gg4 _ | exact gg5 _ | (rw [hres]; done) | (trace_state; fail))
set_option maxRecDepth 100000 in
set_option maxHeartbeats 8000000 in
theorem ok323_3 (T M : Int) (Ex : List (Int × Int)) (Exs : List (List (Int × Int))) (L R : Int) (x y es xt xst : List (List E)) (hx : x = Ex.map orow) (hy : y = Exs.map orr) (ts : List Tb) (hxt : xt = ts.map tbr) (hxl : x.length ≤ 1048576) (hyl : y.length ≤ 1048576) (hel : ∀ e ∈ Exs, e.length ≤ 1048576) (env : Int) (he : 0 ≤ env ∧ env ≤ 400) (l : Ot) (T1 : TypeId) (c1 : List E) (w1 : Int) (hlE : l.E = .ia T1 c1) (hlw : l.w = w1) (h1 : Wid T1 c1 w1) (hw1 : 0 ≤ w1 ∧ w1 ≤ 200) (r : Ot) (e2 : E) :
    Plain Try.prog 189 [.agg [.e (.sl es), .e (.sl xt), .e (.sl xst)], .agg [.int 3, .int T, .int M, .e (.sl x), .e (.sl y), .int L, .int R], .int env, .e (E.ia T1 c1), .e (e2)] (.e (optE (ndO ⟨3, T, M, Ex, Exs, L, R⟩ ts env l r))) := okOf mixed p189 fun A P hA hP => (by
  obtain ⟨res, hres⟩ : ∃ e, e = optE (ndO ⟨3, T, M, Ex, Exs, L, R⟩ ts env l r) := ⟨_, rfl⟩
  rw [← hres]
  have k1 : A.eq 3 1 = false := by rw [hA.eq]; rfl
  have k2 : A.eq 3 2 = false := by rw [hA.eq]; rfl
  have k3 : A.eq 3 3 = true := by rw [hA.eq]; rfl
  have k4 : A.eq 3 4 = false := by rw [hA.eq]; rfl
  have k5 : A.eq 3 5 = false := by rw [hA.eq]; rfl
  have k6 : A.eq 3 6 = false := by rw [hA.eq]; rfl
  have k7 : A.eq 3 7 = false := by rw [hA.eq]; rfl
  have k8 : A.eq 3 8 = false := by rw [hA.eq]; rfl
  have k9 : A.eq 3 9 = false := by rw [hA.eq]; rfl
  have k10 : A.eq 3 10 = false := by rw [hA.eq]; rfl
  obtain ⟨⟨fn1, d1, hd1, hfr1, hm1, hp1⟩⟩ := h1
  have hm1 : MRow P T1 "loop.example/s0035/impl.width" fn1 := hP ▸ hm1
  obtain ⟨s1, hs1⟩ : ∃ z, z = A.add env w1 := ⟨_, rfl⟩
  have hs1' : s1 = env + w1 := by rw [hs1, hA.add]
  have h33 := ok181 Ex x hx hxl s1
  obtain ⟨ex, hex⟩ : ∃ b, b = exOk Ex s1 := ⟨_, rfl⟩
  rw [← hex] at h33
  rw [hs1'] at hex
  have hres : res = if ex = true then .ia 232 [.sl x, .ia T1 c1] else .v .nilIface := by
    rw [hres, ndO]
    simp only [Int.reduceEq, if_true, if_false, hlw, ← hex, true_and, false_and, and_true, or_true, true_or, or_false, false_or, Bool.false_eq_true]
    split <;> simp only [optE, Ot.E, ← hx, hlE, ]
  cases ex
  · rw [if_neg (by simp)] at hres
    cbv
    repeat' first | with_reducible rfl | (simp only [k1, k2, k3, k4, k5, k6, k7, k8, k9, k10, ← hs1]; cbv) | with_reducible refine And.intro ?_ ?_ | ((with_reducible intro hcc); first | (cases hcc; done) | skip) | ((with_reducible first | show goC _ _ _ _ _ _ _ _ | show goOps _ _ _ _ _ | show goD _ _ _ _ _ _); cbv) | ((with_reducible show okWr _ _ = _); rfl) | ((with_reducible refine hA.invk hm1 hd1 ?_); cbv) | ((with_reducible show A.call _ _ _ _ _ fn1 _ _ _); refine callK_eq hA hP hfr1 rfl ?_ (Wks.refl _) (fun _ _ => hp1); cbv) | ((with_reducible first | refine callK_f hA hP h33 ?_ ?_ ?_); exact rfl; exact rfl; cbv) | ((with_reducible first | refine hA.fin_pl _ _ _ ?_ | refine hA.len _ _ _ _ _ fun z hz hb => ?_ | refine hA.off _ _ _ _ fun b hb => ?_ | refine hA.plus _ _ _ fun b hb => ?_ | refine hA.gb0 true _ ?_ | refine hA.gb0 false _ ?_ | refine hA.gb _ _ fun vb hvb => ?_); cbv) | ((with_reducible first | refine hA.sapp _ _ _ ⟨?_, fun sl hsl => ?_⟩); rotate_left; cbv) | (simp only [hA.lits]; cbv)
    all_goals try simp only [hA.ar, inR, n_cast, Int.ofNat_eq_natCast, Option.getD_some, Option.getD_none] at *
    all_goals first | omega | rfl | trivial | exact gg1 _ | exact gg2 _ | exact gg3 _ | exact gg4 _ | exact gg5 _ | (rw [hres]; done) | (trace_state; fail)
  · rw [if_pos rfl] at hres
    cbv
    repeat' first | with_reducible rfl | (simp only [k1, k2, k3, k4, k5, k6, k7, k8, k9, k10, ← hs1]; cbv) | with_reducible refine And.intro ?_ ?_ | ((with_reducible intro hcc); first | (cases hcc; done) | skip) | ((with_reducible first | show goC _ _ _ _ _ _ _ _ | show goOps _ _ _ _ _ | show goD _ _ _ _ _ _); cbv) | ((with_reducible show okWr _ _ = _); rfl) | ((with_reducible refine hA.invk hm1 hd1 ?_); cbv) | ((with_reducible show A.call _ _ _ _ _ fn1 _ _ _); refine callK_eq hA hP hfr1 rfl ?_ (Wks.refl _) (fun _ _ => hp1); cbv) | ((with_reducible first | refine callK_f hA hP h33 ?_ ?_ ?_); exact rfl; exact rfl; cbv) | ((with_reducible first | refine hA.fin_pl _ _ _ ?_ | refine hA.len _ _ _ _ _ fun z hz hb => ?_ | refine hA.off _ _ _ _ fun b hb => ?_ | refine hA.plus _ _ _ fun b hb => ?_ | refine hA.gb0 true _ ?_ | refine hA.gb0 false _ ?_ | refine hA.gb _ _ fun vb hvb => ?_); cbv) | ((with_reducible first | refine hA.sapp _ _ _ ⟨?_, fun sl hsl => ?_⟩); rotate_left; cbv) | (simp only [hA.lits]; cbv)
    all_goals try simp only [hA.ar, inR, n_cast, Int.ofNat_eq_natCast, Option.getD_some, Option.getD_none] at *
    all_goals first | omega | rfl | trivial | exact gg1 _ | exact gg2 _ | exact gg3 _ | exact gg4 _ | exact gg5 _ | (rw [hres]; done) | (trace_state; fail))
set_option maxRecDepth 100000 in
set_option maxHeartbeats 8000000 in
theorem ok323_4 (T M : Int) (Ex : List (Int × Int)) (Exs : List (List (Int × Int))) (L R : Int) (x y es xt xst : List (List E)) (hx : x = Ex.map orow) (hy : y = Exs.map orr) (ts : List Tb) (hxt : xt = ts.map tbr) (hxl : x.length ≤ 1048576) (hyl : y.length ≤ 1048576) (hel : ∀ e ∈ Exs, e.length ≤ 1048576) (env : Int) (he : 0 ≤ env ∧ env ≤ 400) (l : Ot) (T1 : TypeId) (c1 : List E) (w1 : Int) (hlE : l.E = .ia T1 c1) (hlw : l.w = w1) (h1 : Wid T1 c1 w1) (hw1 : 0 ≤ w1 ∧ w1 ≤ 200) (r : Ot) (e2 : E) :
    Plain Try.prog 189 [.agg [.e (.sl es), .e (.sl xt), .e (.sl xst)], .agg [.int 4, .int T, .int M, .e (.sl x), .e (.sl y), .int L, .int R], .int env, .e (E.ia T1 c1), .e (e2)] (.e (optE (ndO ⟨4, T, M, Ex, Exs, L, R⟩ ts env l r))) := okOf mixed p189 fun A P hA hP => (by
  obtain ⟨res, hres⟩ : ∃ e, e = optE (ndO ⟨4, T, M, Ex, Exs, L, R⟩ ts env l r) := ⟨_, rfl⟩
  rw [← hres]
  have k1 : A.eq 4 1 = false := by rw [hA.eq]; rfl
  have k2 : A.eq 4 2 = false := by rw [hA.eq]; rfl
  have k3 : A.eq 4 3 = false := by rw [hA.eq]; rfl
  have k4 : A.eq 4 4 = true := by rw [hA.eq]; rfl
  have k5 : A.eq 4 5 = false := by rw [hA.eq]; rfl
  have k6 : A.eq 4 6 = false := by rw [hA.eq]; rfl
  have k7 : A.eq 4 7 = false := by rw [hA.eq]; rfl
  have k8 : A.eq 4 8 = false := by rw [hA.eq]; rfl
  have k9 : A.eq 4 9 = false := by rw [hA.eq]; rfl
  have k10 : A.eq 4 10 = false := by rw [hA.eq]; rfl
  have hf' : True := trivial
  have h318 := ok182o Exs y hy hel env (by omega) T1 c1 w1 h1 (by omega) (env + w1) rfl
  obtain ⟨an, han⟩ : ∃ b, b = Exs.any fun e => !exOk e (env + w1) := ⟨_, rfl⟩
  rw [← han] at h318
  have hres : res = if an = false then .ia 234 [.sl y, .ia T1 c1] else .v .nilIface := by
    rw [hres, ndO]
    simp only [Int.reduceEq, if_true, if_false, hlw, ← han, true_and, false_and, and_true, or_true, true_or, or_false, false_or, Bool.false_eq_true]
    split <;> simp only [optE, Ot.E, ← hy, hlE, ]
  clear han
  cases an
  · rw [if_pos rfl] at hres
    cbv
    repeat' first | with_reducible rfl | (simp only [k1, k2, k3, k4, k5, k6, k7, k8, k9, k10]; cbv) | with_reducible refine And.intro ?_ ?_ | ((with_reducible intro hcc); first | (cases hcc; done) | skip) | ((with_reducible first | show goC _ _ _ _ _ _ _ _ | show goOps _ _ _ _ _ | show goD _ _ _ _ _ _); cbv) | ((with_reducible show okWr _ _ = _); rfl) | ((with_reducible show A.call _ _ _ _ _ 182 _ _ _); have hc := h318; refine callK_pr hA hP [2, 3] (by rfl) (by exact ⟨rfl, rfl, trivial⟩) (Wks.refl _) ?_ (fun _ _ => hc) hc.side; cbv) | ((with_reducible first | refine hA.fin_pl _ _ _ ?_ | refine hA.len _ _ _ _ _ fun z hz hb => ?_ | refine hA.off _ _ _ _ fun b hb => ?_ | refine hA.plus _ _ _ fun b hb => ?_ | refine hA.gb0 true _ ?_ | refine hA.gb0 false _ ?_ | refine hA.gb _ _ fun vb hvb => ?_); cbv) | ((with_reducible first | refine hA.sapp _ _ _ ⟨?_, fun sl hsl => ?_⟩); rotate_left; cbv) | (simp only [hA.lits]; cbv)
    all_goals try simp only [hA.ar, inR, n_cast, Int.ofNat_eq_natCast, Option.getD_some, Option.getD_none] at *
    all_goals first | omega | rfl | trivial | exact gg1 _ | exact gg2 _ | exact gg3 _ | exact gg4 _ | exact gg5 _ | (rw [hres]; done) | (trace_state; fail)
  · rw [if_neg (by simp)] at hres
    cbv
    repeat' first | with_reducible rfl | (simp only [k1, k2, k3, k4, k5, k6, k7, k8, k9, k10]; cbv) | with_reducible refine And.intro ?_ ?_ | ((with_reducible intro hcc); first | (cases hcc; done) | skip) | ((with_reducible first | show goC _ _ _ _ _ _ _ _ | show goOps _ _ _ _ _ | show goD _ _ _ _ _ _); cbv) | ((with_reducible show okWr _ _ = _); rfl) | ((with_reducible show A.call _ _ _ _ _ 182 _ _ _); have hc := h318; refine callK_pr hA hP [2, 3] (by rfl) (by exact ⟨rfl, rfl, trivial⟩) (Wks.refl _) ?_ (fun _ _ => hc) hc.side; cbv) | ((with_reducible first | refine hA.fin_pl _ _ _ ?_ | refine hA.len _ _ _ _ _ fun z hz hb => ?_ | refine hA.off _ _ _ _ fun b hb => ?_ | refine hA.plus _ _ _ fun b hb => ?_ | refine hA.gb0 true _ ?_ | refine hA.gb0 false _ ?_ | refine hA.gb _ _ fun vb hvb => ?_); cbv) | ((with_reducible first | refine hA.sapp _ _ _ ⟨?_, fun sl hsl => ?_⟩); rotate_left; cbv) | (simp only [hA.lits]; cbv)
    all_goals try simp only [hA.ar, inR, n_cast, Int.ofNat_eq_natCast, Option.getD_some, Option.getD_none] at *
    all_goals first | omega | rfl | trivial | exact gg1 _ | exact gg2 _ | exact gg3 _ | exact gg4 _ | exact gg5 _ | (rw [hres]; done) | (trace_state; fail))
set_option maxRecDepth 100000 in
set_option maxHeartbeats 8000000 in
theorem ok323_5 (T M : Int) (Ex : List (Int × Int)) (Exs : List (List (Int × Int))) (L R : Int) (x y es xt xst : List (List E)) (hx : x = Ex.map orow) (hy : y = Exs.map orr) (ts : List Tb) (hxt : xt = ts.map tbr) (hxl : x.length ≤ 1048576) (hyl : y.length ≤ 1048576) (hel : ∀ e ∈ Exs, e.length ≤ 1048576) (env : Int) (he : 0 ≤ env ∧ env ≤ 400) (l : Ot) (T1 : TypeId) (c1 : List E) (w1 : Int) (hlE : l.E = .ia T1 c1) (hlw : l.w = w1) (h1 : Wid T1 c1 w1) (hw1 : 0 ≤ w1 ∧ w1 ≤ 200) (r : Ot) (T2 : TypeId) (c2 : List E) (w2 : Int) (hrE : r.E = .ia T2 c2) (hrw : r.w = w2) (h2 : Wid T2 c2 w2) (hw2 : 0 ≤ w2 ∧ w2 ≤ 200) :
    Plain Try.prog 189 [.agg [.e (.sl es), .e (.sl xt), .e (.sl xst)], .agg [.int 5, .int T, .int M, .e (.sl x), .e (.sl y), .int L, .int R], .int env, .e (E.ia T1 c1), .e (E.ia T2 c2)] (.e (optE (ndO ⟨5, T, M, Ex, Exs, L, R⟩ ts env l r))) := okOf mixed p189 fun A P hA hP => (by
  obtain ⟨res, hres⟩ : ∃ e, e = optE (ndO ⟨5, T, M, Ex, Exs, L, R⟩ ts env l r) := ⟨_, rfl⟩
  rw [← hres]
  have k1 : A.eq 5 1 = false := by rw [hA.eq]; rfl
  have k2 : A.eq 5 2 = false := by rw [hA.eq]; rfl
  have k3 : A.eq 5 3 = false := by rw [hA.eq]; rfl
  have k4 : A.eq 5 4 = false := by rw [hA.eq]; rfl
  have k5 : A.eq 5 5 = true := by rw [hA.eq]; rfl
  have k6 : A.eq 5 6 = false := by rw [hA.eq]; rfl
  have k7 : A.eq 5 7 = false := by rw [hA.eq]; rfl
  have k8 : A.eq 5 8 = false := by rw [hA.eq]; rfl
  have k9 : A.eq 5 9 = false := by rw [hA.eq]; rfl
  have k10 : A.eq 5 10 = false := by rw [hA.eq]; rfl
  obtain ⟨⟨fn1, d1, hd1, hfr1, hm1, hp1⟩⟩ := h1
  have hm1 : MRow P T1 "loop.example/s0035/impl.width" fn1 := hP ▸ hm1
  obtain ⟨⟨fn2, d2, hd2, hfr2, hm2, hp2⟩⟩ := h2
  have hm2 : MRow P T2 "loop.example/s0035/impl.width" fn2 := hP ▸ hm2
  have hres : res = .ia 236 [.ia T1 c1, .ia T2 c2, .bool false] := by
    rw [hres, ndO]
    simp only [Int.reduceEq, if_true, if_false, optE, Ot.E, hlE, hrE, decide_true, decide_false, Int.reduceEq, true_and, false_and, and_true, or_true, true_or, or_false, false_or, Bool.false_eq_true]
  cbv
  repeat' first | with_reducible rfl | (simp only [k1, k2, k3, k4, k5, k6, k7, k8, k9, k10]; cbv) | with_reducible refine And.intro ?_ ?_ | ((with_reducible intro hcc); first | (cases hcc; done) | skip) | ((with_reducible first | show goC _ _ _ _ _ _ _ _ | show goOps _ _ _ _ _ | show goD _ _ _ _ _ _); cbv) | ((with_reducible show okWr _ _ = _); rfl) | ((with_reducible refine hA.invk hm1 hd1 ?_); cbv) | ((with_reducible show A.call _ _ _ _ _ fn1 _ _ _); refine callK_eq hA hP hfr1 rfl ?_ (Wks.refl _) (fun _ _ => hp1); cbv) | ((with_reducible refine hA.invk hm2 hd2 ?_); cbv) | ((with_reducible show A.call _ _ _ _ _ fn2 _ _ _); refine callK_eq hA hP hfr2 rfl ?_ (Wks.refl _) (fun _ _ => hp2); cbv) | ((with_reducible first | refine hA.fin_pl _ _ _ ?_ | refine hA.len _ _ _ _ _ fun z hz hb => ?_ | refine hA.off _ _ _ _ fun b hb => ?_ | refine hA.plus _ _ _ fun b hb => ?_ | refine hA.gb0 true _ ?_ | refine hA.gb0 false _ ?_ | refine hA.gb _ _ fun vb hvb => ?_); cbv) | ((with_reducible first | refine hA.sapp _ _ _ ⟨?_, fun sl hsl => ?_⟩); rotate_left; cbv) | (simp only [hA.lits]; cbv)
  all_goals try simp only [hA.ar, inR, n_cast, Int.ofNat_eq_natCast, Option.getD_some, Option.getD_none] at *
  all_goals first | omega | rfl | trivial | exact gg1 _ | exact gg2 _ | exact gg3 _ | exact gg4 _ | exact gg5 _ | (rw [hres]; done) | (trace_state; fail))
set_option maxRecDepth 100000 in
set_option maxHeartbeats 8000000 in
theorem ok323_6 (T M : Int) (Ex : List (Int × Int)) (Exs : List (List (Int × Int))) (L R : Int) (x y es xt xst : List (List E)) (hx : x = Ex.map orow) (hy : y = Exs.map orr) (ts : List Tb) (hxt : xt = ts.map tbr) (hxl : x.length ≤ 1048576) (hyl : y.length ≤ 1048576) (hel : ∀ e ∈ Exs, e.length ≤ 1048576) (env : Int) (he : 0 ≤ env ∧ env ≤ 400) (l : Ot) (T1 : TypeId) (c1 : List E) (w1 : Int) (hlE : l.E = .ia T1 c1) (hlw : l.w = w1) (h1 : Wid T1 c1 w1) (hw1 : 0 ≤ w1 ∧ w1 ≤ 200) (r : Ot) (T2 : TypeId) (c2 : List E) (w2 : Int) (hrE : r.E = .ia T2 c2) (hrw : r.w = w2) (h2 : Wid T2 c2 w2) (hw2 : 0 ≤ w2 ∧ w2 ≤ 200) :
    Plain Try.prog 189 [.agg [.e (.sl es), .e (.sl xt), .e (.sl xst)], .agg [.int 6, .int T, .int M, .e (.sl x), .e (.sl y), .int L, .int R], .int env, .e (E.ia T1 c1), .e (E.ia T2 c2)] (.e (optE (ndO ⟨6, T, M, Ex, Exs, L, R⟩ ts env l r))) := okOf mixed p189 fun A P hA hP => (by
  obtain ⟨res, hres⟩ : ∃ e, e = optE (ndO ⟨6, T, M, Ex, Exs, L, R⟩ ts env l r) := ⟨_, rfl⟩
  rw [← hres]
  have k1 : A.eq 6 1 = false := by rw [hA.eq]; rfl
  have k2 : A.eq 6 2 = false := by rw [hA.eq]; rfl
  have k3 : A.eq 6 3 = false := by rw [hA.eq]; rfl
  have k4 : A.eq 6 4 = false := by rw [hA.eq]; rfl
  have k5 : A.eq 6 5 = false := by rw [hA.eq]; rfl
  have k6 : A.eq 6 6 = true := by rw [hA.eq]; rfl
  have k7 : A.eq 6 7 = false := by rw [hA.eq]; rfl
  have k8 : A.eq 6 8 = false := by rw [hA.eq]; rfl
  have k9 : A.eq 6 9 = false := by rw [hA.eq]; rfl
  have k10 : A.eq 6 10 = false := by rw [hA.eq]; rfl
  obtain ⟨⟨fn1, d1, hd1, hfr1, hm1, hp1⟩⟩ := h1
  have hm1 : MRow P T1 "loop.example/s0035/impl.width" fn1 := hP ▸ hm1
  obtain ⟨⟨fn2, d2, hd2, hfr2, hm2, hp2⟩⟩ := h2
  have hm2 : MRow P T2 "loop.example/s0035/impl.width" fn2 := hP ▸ hm2
  have hres : res = .ia 236 [.ia T1 c1, .ia T2 c2, .bool true] := by
    rw [hres, ndO]
    simp only [Int.reduceEq, if_true, if_false, optE, Ot.E, hlE, hrE, decide_true, decide_false, Int.reduceEq, true_and, false_and, and_true, or_true, true_or, or_false, false_or, Bool.false_eq_true]
  cbv
  repeat' first | with_reducible rfl | (simp only [k1, k2, k3, k4, k5, k6, k7, k8, k9, k10]; cbv) | with_reducible refine And.intro ?_ ?_ | ((with_reducible intro hcc); first | (cases hcc; done) | skip) | ((with_reducible first | show goC _ _ _ _ _ _ _ _ | show goOps _ _ _ _ _ | show goD _ _ _ _ _ _); cbv) | ((with_reducible show okWr _ _ = _); rfl) | ((with_reducible refine hA.invk hm1 hd1 ?_); cbv) | ((with_reducible show A.call _ _ _ _ _ fn1 _ _ _); refine callK_eq hA hP hfr1 rfl ?_ (Wks.refl _) (fun _ _ => hp1); cbv) | ((with_reducible refine hA.invk hm2 hd2 ?_); cbv) | ((with_reducible show A.call _ _ _ _ _ fn2 _ _ _); refine callK_eq hA hP hfr2 rfl ?_ (Wks.refl _) (fun _ _ => hp2); cbv) | ((with_reducible first | refine hA.fin_pl _ _ _ ?_ | refine hA.len _ _ _ _ _ fun z hz hb => ?_ | refine hA.off _ _ _ _ fun b hb => ?_ | refine hA.plus _ _ _ fun b hb => ?_ | refine hA.gb0 true _ ?_ | refine hA.gb0 false _ ?_ | refine hA.gb _ _ fun vb hvb => ?_); cbv) | ((with_reducible first | refine hA.sapp _ _ _ ⟨?_, fun sl hsl => ?_⟩); rotate_left; cbv) | (simp only [hA.lits]; cbv)
  all_goals try simp only [hA.ar, inR, n_cast, Int.ofNat_eq_natCast, Option.getD_some, Option.getD_none] at *
  all_goals first | omega | rfl | trivial | exact gg1 _ | exact gg2 _ | exact gg3 _ | exact gg4 _ | exact gg5 _ | (rw [hres]; done) | (trace_state; fail))
set_option maxRecDepth 100000 in
set_option maxHeartbeats 8000000 in
theorem ok323_7 (T M : Int) (Ex : List (Int × Int)) (Exs : List (List (Int × Int))) (L R : Int) (x y es xt xst : List (List E)) (hx : x = Ex.map orow) (hy : y = Exs.map orr) (ts : List Tb) (hxt : xt = ts.map tbr) (hxl : x.length ≤ 1048576) (hyl : y.length ≤ 1048576) (hel : ∀ e ∈ Exs, e.length ≤ 1048576) (env : Int) (he : 0 ≤ env ∧ env ≤ 400) (l : Ot) (T1 : TypeId) (c1 : List E) (w1 : Int) (hlE : l.E = .ia T1 c1) (hlw : l.w = w1) (h1 : Wid T1 c1 w1) (hw1 : 0 ≤ w1 ∧ w1 ≤ 200) (r : Ot) (T2 : TypeId) (c2 : List E) (w2 : Int) (hrE : r.E = .ia T2 c2) (hrw : r.w = w2) (h2 : Wid T2 c2 w2) (hw2 : 0 ≤ w2 ∧ w2 ≤ 200) :
    Plain Try.prog 189 [.agg [.e (.sl es), .e (.sl xt), .e (.sl xst)], .agg [.int 7, .int T, .int M, .e (.sl x), .e (.sl y), .int L, .int R], .int env, .e (E.ia T1 c1), .e (E.ia T2 c2)] (.e (optE (ndO ⟨7, T, M, Ex, Exs, L, R⟩ ts env l r))) := okOf mixed p189 fun A P hA hP => (by
  obtain ⟨res, hres⟩ : ∃ e, e = optE (ndO ⟨7, T, M, Ex, Exs, L, R⟩ ts env l r) := ⟨_, rfl⟩
  rw [← hres]
  have k1 : A.eq 7 1 = false := by rw [hA.eq]; rfl
  have k2 : A.eq 7 2 = false := by rw [hA.eq]; rfl
  have k3 : A.eq 7 3 = false := by rw [hA.eq]; rfl
  have k4 : A.eq 7 4 = false := by rw [hA.eq]; rfl
  have k5 : A.eq 7 5 = false := by rw [hA.eq]; rfl
  have k6 : A.eq 7 6 = false := by rw [hA.eq]; rfl
  have k7 : A.eq 7 7 = true := by rw [hA.eq]; rfl
  have k8 : A.eq 7 8 = false := by rw [hA.eq]; rfl
  have k9 : A.eq 7 9 = false := by rw [hA.eq]; rfl
  have k10 : A.eq 7 10 = false := by rw [hA.eq]; rfl
  obtain ⟨⟨fn1, d1, hd1, hfr1, hm1, hp1⟩⟩ := h1
  have hm1 : MRow P T1 "loop.example/s0035/impl.width" fn1 := hP ▸ hm1
  obtain ⟨⟨fn2, d2, hd2, hfr2, hm2, hp2⟩⟩ := h2
  have hm2 : MRow P T2 "loop.example/s0035/impl.width" fn2 := hP ▸ hm2
  obtain ⟨s1, hs1⟩ : ∃ z, z = A.add env w1 := ⟨_, rfl⟩
  have hs1' : s1 = env + w1 := by rw [hs1, hA.add]
  obtain ⟨s2, hs2⟩ : ∃ z, z = A.add s1 w2 := ⟨_, rfl⟩
  have hs2' : s2 = env + w1 + w2 := by rw [hs2, hA.add, hs1']
  have h33 := ok181 Ex x hx hxl s2
  obtain ⟨ex, hex⟩ : ∃ b, b = exOk Ex s2 := ⟨_, rfl⟩
  rw [← hex] at h33
  rw [hs2'] at hex
  have hres : res = if ex = true then .ia 238 [.sl x, .ia T1 c1, .ia T2 c2] else .v .nilIface := by
    rw [hres, ndO]
    simp only [Int.reduceEq, if_true, if_false, hlw, hrw, ← hex, true_and, false_and, and_true, or_true, true_or, or_false, false_or, Bool.false_eq_true]
    split <;> simp only [optE, Ot.E, ← hx, hlE, hrE, ]
  cases ex
  · rw [if_neg (by simp)] at hres
    cbv
    repeat' first | with_reducible rfl | (simp only [k1, k2, k3, k4, k5, k6, k7, k8, k9, k10, ← hs1, ← hs2]; cbv) | with_reducible refine And.intro ?_ ?_ | ((with_reducible intro hcc); first | (cases hcc; done) | skip) | ((with_reducible first | show goC _ _ _ _ _ _ _ _ | show goOps _ _ _ _ _ | show goD _ _ _ _ _ _); cbv) | ((with_reducible show okWr _ _ = _); rfl) | ((with_reducible refine hA.invk hm1 hd1 ?_); cbv) | ((with_reducible show A.call _ _ _ _ _ fn1 _ _ _); refine callK_eq hA hP hfr1 rfl ?_ (Wks.refl _) (fun _ _ => hp1); cbv) | ((with_reducible refine hA.invk hm2 hd2 ?_); cbv) | ((with_reducible show A.call _ _ _ _ _ fn2 _ _ _); refine callK_eq hA hP hfr2 rfl ?_ (Wks.refl _) (fun _ _ => hp2); cbv) | ((with_reducible first | refine callK_f hA hP h33 ?_ ?_ ?_); exact rfl; exact rfl; cbv) | ((with_reducible first | refine hA.fin_pl _ _ _ ?_ | refine hA.len _ _ _ _ _ fun z hz hb => ?_ | refine hA.off _ _ _ _ fun b hb => ?_ | refine hA.plus _ _ _ fun b hb => ?_ | refine hA.gb0 true _ ?_ | refine hA.gb0 false _ ?_ | refine hA.gb _ _ fun vb hvb => ?_); cbv) | ((with_reducible first | refine hA.sapp _ _ _ ⟨?_, fun sl hsl => ?_⟩); rotate_left; cbv) | (simp only [hA.lits]; cbv)
    all_goals try simp only [hA.ar, inR, n_cast, Int.ofNat_eq_natCast, Option.getD_some, Option.getD_none] at *
    all_goals first | omega | rfl | trivial | exact gg1 _ | exact gg2 _ | exact gg3 _ | exact gg4 _ | exact gg5 _ | (rw [hres]; done) | (trace_state; fail)
  · rw [if_pos rfl] at hres
    cbv
    repeat' first | with_reducible rfl | (simp only [k1, k2, k3, k4, k5, k6, k7, k8, k9, k10, ← hs1, ← hs2]; cbv) | with_reducible refine And.intro ?_ ?_ | ((with_reducible intro hcc); first | (cases hcc; done) | skip) | ((with_reducible first | show goC _ _ _ _ _ _ _ _ | show goOps _ _ _ _ _ | show goD _ _ _ _ _ _); cbv) | ((with_reducible show okWr _ _ = _); rfl) | ((with_reducible refine hA.invk hm1 hd1 ?_); cbv) | ((with_reducible show A.call _ _ _ _ _ fn1 _ _ _); refine callK_eq hA hP hfr1 rfl ?_ (Wks.refl _) (fun _ _ => hp1); cbv) | ((with_reducible refine hA.invk hm2 hd2 ?_); cbv) | ((with_reducible show A.call _ _ _ _ _ fn2 _ _ _); refine callK_eq hA hP hfr2 rfl ?_ (Wks.refl _) (fun _ _ => hp2); cbv) | ((with_reducible first | refine callK_f hA hP h33 ?_ ?_ ?_); exact rfl; exact rfl; cbv) | ((with_reducible first | refine hA.fin_pl _ _ _ ?_ | refine hA.len _ _ _ _ _ fun z hz hb => ?_ | refine hA.off _ _ _ _ fun b hb => ?_ | refine hA.plus _ _ _ fun b hb => ?_ | refine hA.gb0 true _ ?_ | refine hA.gb0 false _ ?_ | refine hA.gb _ _ fun vb hvb => ?_); cbv) | ((with_reducible first | refine hA.sapp _ _ _ ⟨?_, fun sl hsl => ?_⟩); rotate_left; cbv) | (simp only [hA.lits]; cbv)
    all_goals try simp only [hA.ar, inR, n_cast, Int.ofNat_eq_natCast, Option.getD_some, Option.getD_none] at *
    all_goals first | omega | rfl | trivial | exact gg1 _ | exact gg2 _ | exact gg3 _ | exact gg4 _ | exact gg5 _ | (rw [hres]; done) | (trace_state; fail))
set_option maxRecDepth 100000 in
set_option maxHeartbeats 8000000 in
theorem ok323_8 (T M : Int) (Ex : List (Int × Int)) (Exs : List (List (Int × Int))) (L R : Int) (x y es xt xst : List (List E)) (hx : x = Ex.map orow) (hy : y = Exs.map orr) (ts : List Tb) (hxt : xt = ts.map tbr) (hxl : x.length ≤ 1048576) (hyl : y.length ≤ 1048576) (hel : ∀ e ∈ Exs, e.length ≤ 1048576) (env : Int) (he : 0 ≤ env ∧ env ≤ 400) (l : Ot) (T1 : TypeId) (c1 : List E) (w1 : Int) (hlE : l.E = .ia T1 c1) (hlw : l.w = w1) (h1 : Wid T1 c1 w1) (hw1 : 0 ≤ w1 ∧ w1 ≤ 200) (r : Ot) (T2 : TypeId) (c2 : List E) (w2 : Int) (hrE : r.E = .ia T2 c2) (hrw : r.w = w2) (h2 : Wid T2 c2 w2) (hw2 : 0 ≤ w2 ∧ w2 ≤ 200) :
    Plain Try.prog 189 [.agg [.e (.sl es), .e (.sl xt), .e (.sl xst)], .agg [.int 8, .int T, .int M, .e (.sl x), .e (.sl y), .int L, .int R], .int env, .e (E.ia T1 c1), .e (E.ia T2 c2)] (.e (optE (ndO ⟨8, T, M, Ex, Exs, L, R⟩ ts env l r))) := okOf mixed p189 fun A P hA hP => (by
  obtain ⟨res, hres⟩ : ∃ e, e = optE (ndO ⟨8, T, M, Ex, Exs, L, R⟩ ts env l r) := ⟨_, rfl⟩
  rw [← hres]
  have k1 : A.eq 8 1 = false := by rw [hA.eq]; rfl
  have k2 : A.eq 8 2 = false := by rw [hA.eq]; rfl
  have k3 : A.eq 8 3 = false := by rw [hA.eq]; rfl
  have k4 : A.eq 8 4 = false := by rw [hA.eq]; rfl
  have k5 : A.eq 8 5 = false := by rw [hA.eq]; rfl
  have k6 : A.eq 8 6 = false := by rw [hA.eq]; rfl
  have k7 : A.eq 8 7 = false := by rw [hA.eq]; rfl
  have k8 : A.eq 8 8 = true := by rw [hA.eq]; rfl
  have k9 : A.eq 8 9 = false := by rw [hA.eq]; rfl
  have k10 : A.eq 8 10 = false := by rw [hA.eq]; rfl
  obtain ⟨⟨fn1, d1, hd1, hfr1, hm1, hp1⟩⟩ := h1
  have hm1 : MRow P T1 "loop.example/s0035/impl.width" fn1 := hP ▸ hm1
  obtain ⟨⟨fn2, d2, hd2, hfr2, hm2, hp2⟩⟩ := h2
  have hm2 : MRow P T2 "loop.example/s0035/impl.width" fn2 := hP ▸ hm2
  obtain ⟨s1, hs1⟩ : ∃ z, z = A.add env w1 := ⟨_, rfl⟩
  have hs1' : s1 = env + w1 := by rw [hs1, hA.add]
  obtain ⟨s2, hs2⟩ : ∃ z, z = A.add s1 w2 := ⟨_, rfl⟩
  have hs2' : s2 = env + w1 + w2 := by rw [hs2, hA.add, hs1']
  have h33 := ok181 Ex x hx hxl s2
  obtain ⟨ex, hex⟩ : ∃ b, b = exOk Ex s2 := ⟨_, rfl⟩
  rw [← hex] at h33
  rw [hs2'] at hex
  obtain ⟨m1, hm⟩ : ∃ b, b = decide (M = 1) := ⟨_, rfl⟩
  have vm : A.eq M 1 = m1 := by rw [hA.eq, hm]
  have hres : res = if m1 = true ∨ ex = true then .ia 240 [.int M, .sl x, .ia T1 c1, .ia T2 c2] else .v .nilIface := by
    rw [hres, ndO, hm]
    simp only [Int.reduceEq, if_true, if_false, hlw, hrw, ← hex, decide_eq_true_eq, true_and, false_and, and_true, or_true, true_or, or_false, false_or, Bool.false_eq_true]
    split <;> simp only [optE, Ot.E, ← hx, hlE, hrE, ]
  clear hm
  cases m1
  · cases ex
    · rw [if_neg (by simp)] at hres
      cbv
      repeat' first | with_reducible rfl | (simp only [k1, k2, k3, k4, k5, k6, k7, k8, k9, k10, vm, ← hs1, ← hs2]; cbv) | with_reducible refine And.intro ?_ ?_ | ((with_reducible intro hcc); first | (cases hcc; done) | skip) | ((with_reducible first | show goC _ _ _ _ _ _ _ _ | show goOps _ _ _ _ _ | show goD _ _ _ _ _ _); cbv) | ((with_reducible show okWr _ _ = _); rfl) | ((with_reducible refine hA.invk hm1 hd1 ?_); cbv) | ((with_reducible show A.call _ _ _ _ _ fn1 _ _ _); refine callK_eq hA hP hfr1 rfl ?_ (Wks.refl _) (fun _ _ => hp1); cbv) | ((with_reducible refine hA.invk hm2 hd2 ?_); cbv) | ((with_reducible show A.call _ _ _ _ _ fn2 _ _ _); refine callK_eq hA hP hfr2 rfl ?_ (Wks.refl _) (fun _ _ => hp2); cbv) | ((with_reducible first | refine callK_f hA hP h33 ?_ ?_ ?_); exact rfl; exact rfl; cbv) | ((with_reducible first | refine hA.fin_pl _ _ _ ?_ | refine hA.len _ _ _ _ _ fun z hz hb => ?_ | refine hA.off _ _ _ _ fun b hb => ?_ | refine hA.plus _ _ _ fun b hb => ?_ | refine hA.gb0 true _ ?_ | refine hA.gb0 false _ ?_ | refine hA.gb _ _ fun vb hvb => ?_); cbv) | ((with_reducible first | refine hA.sapp _ _ _ ⟨?_, fun sl hsl => ?_⟩); rotate_left; cbv) | (simp only [hA.lits]; cbv)
      all_goals try simp only [hA.ar, inR, n_cast, Int.ofNat_eq_natCast, Option.getD_some, Option.getD_none] at *
      all_goals first | omega | rfl | trivial | exact gg1 _ | exact gg2 _ | exact gg3 _ | exact gg4 _ | exact gg5 _ | (rw [hres]; done) | (trace_state; fail)
    · rw [if_pos (.inr rfl)] at hres
      cbv
      repeat' first | with_reducible rfl | (simp only [k1, k2, k3, k4, k5, k6, k7, k8, k9, k10, vm, ← hs1, ← hs2]; cbv) | with_reducible refine And.intro ?_ ?_ | ((with_reducible intro hcc); first | (cases hcc; done) | skip) | ((with_reducible first | show goC _ _ _ _ _ _ _ _ | show goOps _ _ _ _ _ | show goD _ _ _ _ _ _); cbv) | ((with_reducible show okWr _ _ = _); rfl) | ((with_reducible refine hA.invk hm1 hd1 ?_); cbv) | ((with_reducible show A.call _ _ _ _ _ fn1 _ _ _); refine callK_eq hA hP hfr1 rfl ?_ (Wks.refl _) (fun _ _ => hp1); cbv) | ((with_reducible refine hA.invk hm2 hd2 ?_); cbv) | ((with_reducible show A.call _ _ _ _ _ fn2 _ _ _); refine callK_eq hA hP hfr2 rfl ?_ (Wks.refl _) (fun _ _ => hp2); cbv) | ((with_reducible first | refine callK_f hA hP h33 ?_ ?_ ?_); exact rfl; exact rfl; cbv) | ((with_reducible first | refine hA.fin_pl _ _ _ ?_ | refine hA.len _ _ _ _ _ fun z hz hb => ?_ | refine hA.off _ _ _ _ fun b hb => ?_ | refine hA.plus _ _ _ fun b hb => ?_ | refine hA.gb0 true _ ?_ | refine hA.gb0 false _ ?_ | refine hA.gb _ _ fun vb hvb => ?_); cbv) | ((with_reducible first | refine hA.sapp _ _ _ ⟨?_, fun sl hsl => ?_⟩); rotate_left; cbv) | (simp only [hA.lits]; cbv)
      all_goals try simp only [hA.ar, inR, n_cast, Int.ofNat_eq_natCast, Option.getD_some, Option.getD_none] at *
      all_goals first | omega | rfl | trivial | exact gg1 _ | exact gg2 _ | exact gg3 _ | exact gg4 _ | exact gg5 _ | (rw [hres]; done) | (trace_state; fail)
  · rw [if_pos (.inl rfl)] at hres
    cbv
    repeat' first | with_reducible rfl | (simp only [k1, k2, k3, k4, k5, k6, k7, k8, k9, k10, vm, ← hs1, ← hs2]; cbv) | with_reducible refine And.intro ?_ ?_ | ((with_reducible intro hcc); first | (cases hcc; done) | skip) | ((with_reducible first | show goC _ _ _ _ _ _ _ _ | show goOps _ _ _ _ _ | show goD _ _ _ _ _ _); cbv) | ((with_reducible show okWr _ _ = _); rfl) | ((with_reducible show A.call _ _ _ _ false 181 _ _ _); refine callK_no hA (.bool false) ?_; cbv) | ((with_reducible show A.call _ _ _ _ false _ _ _ _); refine callK_no hA (.int 0) ?_; cbv) | ((with_reducible refine hA.invk hm1 hd1 ?_); cbv) | ((with_reducible show A.call _ _ _ _ _ fn1 _ _ _); refine callK_eq hA hP hfr1 rfl ?_ (Wks.refl _) (fun _ _ => hp1); cbv) | ((with_reducible refine hA.invk hm2 hd2 ?_); cbv) | ((with_reducible show A.call _ _ _ _ _ fn2 _ _ _); refine callK_eq hA hP hfr2 rfl ?_ (Wks.refl _) (fun _ _ => hp2); cbv) | ((with_reducible first | refine callK_f hA hP h33 ?_ ?_ ?_); exact rfl; exact rfl; cbv) | ((with_reducible first | refine hA.fin_pl _ _ _ ?_ | refine hA.len _ _ _ _ _ fun z hz hb => ?_ | refine hA.off _ _ _ _ fun b hb => ?_ | refine hA.plus _ _ _ fun b hb => ?_ | refine hA.gb0 true _ ?_ | refine hA.gb0 false _ ?_ | refine hA.gb _ _ fun vb hvb => ?_); cbv) | ((with_reducible first | refine hA.sapp _ _ _ ⟨?_, fun sl hsl => ?_⟩); rotate_left; cbv) | (simp only [hA.lits]; cbv)
    all_goals try simp only [hA.ar, inR, n_cast, Int.ofNat_eq_natCast, Option.getD_some, Option.getD_none] at *
    all_goals first | omega | rfl | trivial | exact gg1 _ | exact gg2 _ | exact gg3 _ | exact gg4 _ | exact gg5 _ | (rw [hres]; done) | (trace_state; fail))
set_option maxRecDepth 100000 in
set_option maxHeartbeats 8000000 in
theorem ok323_9 (T M : Int) (Ex : List (Int × Int)) (Exs : List (List (Int × Int))) (L R : Int) (x y es xt xst : List (List E)) (hx : x = Ex.map orow) (hy : y = Exs.map orr) (ts : List Tb) (hxt : xt = ts.map tbr) (hxl : x.length ≤ 1048576) (hyl : y.length ≤ 1048576) (hel : ∀ e ∈ Exs, e.length ≤ 1048576) (env : Int) (he : 0 ≤ env ∧ env ≤ 400) (l : Ot) (T1 : TypeId) (c1 : List E) (w1 : Int) (hlE : l.E = .ia T1 c1) (hlw : l.w = w1) (h1 : Wid T1 c1 w1) (hw1 : 0 ≤ w1 ∧ w1 ≤ 200) (r : Ot) (e2 : E) :
    Plain Try.prog 189 [.agg [.e (.sl es), .e (.sl xt), .e (.sl xst)], .agg [.int 9, .int T, .int M, .e (.sl x), .e (.sl y), .int L, .int R], .int env, .e (E.ia T1 c1), .e (e2)] (.e (optE (ndO ⟨9, T, M, Ex, Exs, L, R⟩ ts env l r))) := okOf mixed p189 fun A P hA hP => (by
  obtain ⟨res, hres⟩ : ∃ e, e = optE (ndO ⟨9, T, M, Ex, Exs, L, R⟩ ts env l r) := ⟨_, rfl⟩
  rw [← hres]
  have k1 : A.eq 9 1 = false := by rw [hA.eq]; rfl
  have k2 : A.eq 9 2 = false := by rw [hA.eq]; rfl
  have k3 : A.eq 9 3 = false := by rw [hA.eq]; rfl
  have k4 : A.eq 9 4 = false := by rw [hA.eq]; rfl
  have k5 : A.eq 9 5 = false := by rw [hA.eq]; rfl
  have k6 : A.eq 9 6 = false := by rw [hA.eq]; rfl
  have k7 : A.eq 9 7 = false := by rw [hA.eq]; rfl
  have k8 : A.eq 9 8 = false := by rw [hA.eq]; rfl
  have k9 : A.eq 9 9 = true := by rw [hA.eq]; rfl
  have k10 : A.eq 9 10 = false := by rw [hA.eq]; rfl
  obtain ⟨⟨fn1, d1, hd1, hfr1, hm1, hp1⟩⟩ := h1
  have hm1 : MRow P T1 "loop.example/s0035/impl.width" fn1 := hP ▸ hm1
  have hres : res = .ia 242 [.ia T1 c1] := by
    rw [hres, ndO]
    simp only [Int.reduceEq, if_true, if_false, optE, Ot.E, hlE, decide_true, decide_false, Int.reduceEq, true_and, false_and, and_true, or_true, true_or, or_false, false_or, Bool.false_eq_true]
  cbv
  repeat' first | with_reducible rfl | (simp only [k1, k2, k3, k4, k5, k6, k7, k8, k9, k10]; cbv) | with_reducible refine And.intro ?_ ?_ | ((with_reducible intro hcc); first | (cases hcc; done) | skip) | ((with_reducible first | show goC _ _ _ _ _ _ _ _ | show goOps _ _ _ _ _ | show goD _ _ _ _ _ _); cbv) | ((with_reducible show okWr _ _ = _); rfl) | ((with_reducible refine hA.invk hm1 hd1 ?_); cbv) | ((with_reducible show A.call _ _ _ _ _ fn1 _ _ _); refine callK_eq hA hP hfr1 rfl ?_ (Wks.refl _) (fun _ _ => hp1); cbv) | ((with_reducible first | refine hA.fin_pl _ _ _ ?_ | refine hA.len _ _ _ _ _ fun z hz hb => ?_ | refine hA.off _ _ _ _ fun b hb => ?_ | refine hA.plus _ _ _ fun b hb => ?_ | refine hA.gb0 true _ ?_ | refine hA.gb0 false _ ?_ | refine hA.gb _ _ fun vb hvb => ?_); cbv) | ((with_reducible first | refine hA.sapp _ _ _ ⟨?_, fun sl hsl => ?_⟩); rotate_left; cbv) | (simp only [hA.lits]; cbv)
  all_goals try simp only [hA.ar, inR, n_cast, Int.ofNat_eq_natCast, Option.getD_some, Option.getD_none] at *
  all_goals first | omega | rfl | trivial | exact gg1 _ | exact gg2 _ | exact gg3 _ | exact gg4 _ | exact gg5 _ | (rw [hres]; done) | (trace_state; fail))
set_option maxRecDepth 100000 in
set_option maxHeartbeats 8000000 in
theorem ok323_10 (T M : Int) (Ex : List (Int × Int)) (Exs : List (List (Int × Int))) (L R : Int) (x y es xt xst : List (List E)) (hx : x = Ex.map orow) (hy : y = Exs.map orr) (ts : List Tb) (hxt : xt = ts.map tbr) (hxl : x.length ≤ 1048576) (hyl : y.length ≤ 1048576) (hel : ∀ e ∈ Exs, e.length ≤ 1048576) (env : Int) (he : 0 ≤ env ∧ env ≤ 400) (l : Ot) (T1 : TypeId) (c1 : List E) (w1 : Int) (hlE : l.E = .ia T1 c1) (hlw : l.w = w1) (h1 : Wid T1 c1 w1) (hw1 : 0 ≤ w1 ∧ w1 ≤ 200) (r : Ot) (T2 : TypeId) (c2 : List E) (w2 : Int) (hrE : r.E = .ia T2 c2) (hrw : r.w = w2) (h2 : Wid T2 c2 w2) (hw2 : 0 ≤ w2 ∧ w2 ≤ 200) :
    Plain Try.prog 189 [.agg [.e (.sl es), .e (.sl xt), .e (.sl xst)], .agg [.int 10, .int T, .int M, .e (.sl x), .e (.sl y), .int L, .int R], .int env, .e (E.ia T1 c1), .e (E.ia T2 c2)] (.e (optE (ndO ⟨10, T, M, Ex, Exs, L, R⟩ ts env l r))) := okOf mixed p189 fun A P hA hP => (by
  obtain ⟨res, hres⟩ : ∃ e, e = optE (ndO ⟨10, T, M, Ex, Exs, L, R⟩ ts env l r) := ⟨_, rfl⟩
  rw [← hres]
  have k1 : A.eq 10 1 = false := by rw [hA.eq]; rfl
  have k2 : A.eq 10 2 = false := by rw [hA.eq]; rfl
  have k3 : A.eq 10 3 = false := by rw [hA.eq]; rfl
  have k4 : A.eq 10 4 = false := by rw [hA.eq]; rfl
  have k5 : A.eq 10 5 = false := by rw [hA.eq]; rfl
  have k6 : A.eq 10 6 = false := by rw [hA.eq]; rfl
  have k7 : A.eq 10 7 = false := by rw [hA.eq]; rfl
  have k8 : A.eq 10 8 = false := by rw [hA.eq]; rfl
  have k9 : A.eq 10 9 = false := by rw [hA.eq]; rfl
  have k10 : A.eq 10 10 = true := by rw [hA.eq]; rfl
  obtain ⟨⟨fn1, d1, hd1, hfr1, hm1, hp1⟩⟩ := h1
  have hm1 : MRow P T1 "loop.example/s0035/impl.width" fn1 := hP ▸ hm1
  obtain ⟨⟨fn2, d2, hd2, hfr2, hm2, hp2⟩⟩ := h2
  have hm2 : MRow P T2 "loop.example/s0035/impl.width" fn2 := hP ▸ hm2
  obtain ⟨lr, hlr⟩ : ∃ b, b = decide (w1 = w2) := ⟨_, rfl⟩
  have vlr : A.eq w1 w2 = lr := by rw [hA.eq, hlr]
  have hres : res = if lr = true then .ia 244 [.ia T1 c1, .ia T2 c2] else .v .nilIface := by
    rw [hres, ndO, hlr]
    simp only [Int.reduceEq, if_true, if_false, hlw, hrw, decide_eq_true_eq, true_and, false_and, and_true, or_true, true_or, or_false, false_or, Bool.false_eq_true]
    split <;> simp only [optE, Ot.E, hlE, hrE, ]
  clear hlr
  cases lr
  · rw [if_neg (by simp)] at hres
    cbv
    repeat' first | with_reducible rfl | (simp only [k1, k2, k3, k4, k5, k6, k7, k8, k9, k10, vlr]; cbv) | with_reducible refine And.intro ?_ ?_ | ((with_reducible intro hcc); first | (cases hcc; done) | skip) | ((with_reducible first | show goC _ _ _ _ _ _ _ _ | show goOps _ _ _ _ _ | show goD _ _ _ _ _ _); cbv) | ((with_reducible show okWr _ _ = _); rfl) | ((with_reducible refine hA.invk hm1 hd1 ?_); cbv) | ((with_reducible show A.call _ _ _ _ _ fn1 _ _ _); refine callK_eq hA hP hfr1 rfl ?_ (Wks.refl _) (fun _ _ => hp1); cbv) | ((with_reducible refine hA.invk hm2 hd2 ?_); cbv) | ((with_reducible show A.call _ _ _ _ _ fn2 _ _ _); refine callK_eq hA hP hfr2 rfl ?_ (Wks.refl _) (fun _ _ => hp2); cbv) | ((with_reducible first | refine hA.fin_pl _ _ _ ?_ | refine hA.len _ _ _ _ _ fun z hz hb => ?_ | refine hA.off _ _ _ _ fun b hb => ?_ | refine hA.plus _ _ _ fun b hb => ?_ | refine hA.gb0 true _ ?_ | refine hA.gb0 false _ ?_ | refine hA.gb _ _ fun vb hvb => ?_); cbv) | ((with_reducible first | refine hA.sapp _ _ _ ⟨?_, fun sl hsl => ?_⟩); rotate_left; cbv) | (simp only [hA.lits]; cbv)
    all_goals try simp only [hA.ar, inR, n_cast, Int.ofNat_eq_natCast, Option.getD_some, Option.getD_none] at *
    all_goals first | omega | rfl | trivial | exact gg1 _ | exact gg2 _ | exact gg3 _ | exact gg4 _ | exact gg5 _ | (rw [hres]; done) | (trace_state; fail)
  · rw [if_pos rfl] at hres
    cbv
    repeat' first | with_reducible rfl | (simp only [k1, k2, k3, k4, k5, k6, k7, k8, k9, k10, vlr]; cbv) | with_reducible refine And.intro ?_ ?_ | ((with_reducible intro hcc); first | (cases hcc; done) | skip) | ((with_reducible first | show goC _ _ _ _ _ _ _ _ | show goOps _ _ _ _ _ | show goD _ _ _ _ _ _); cbv) | ((with_reducible show okWr _ _ = _); rfl) | ((with_reducible refine hA.invk hm1 hd1 ?_); cbv) | ((with_reducible show A.call _ _ _ _ _ fn1 _ _ _); refine callK_eq hA hP hfr1 rfl ?_ (Wks.refl _) (fun _ _ => hp1); cbv) | ((with_reducible refine hA.invk hm2 hd2 ?_); cbv) | ((with_reducible show A.call _ _ _ _ _ fn2 _ _ _); refine callK_eq hA hP hfr2 rfl ?_ (Wks.refl _) (fun _ _ => hp2); cbv) | ((with_reducible first | refine hA.fin_pl _ _ _ ?_ | refine hA.len _ _ _ _ _ fun z hz hb => ?_ | refine hA.off _ _ _ _ fun b hb => ?_ | refine hA.plus _ _ _ fun b hb => ?_ | refine hA.gb0 true _ ?_ | refine hA.gb0 false _ ?_ | refine hA.gb _ _ fun vb hvb => ?_); cbv) | ((with_reducible first | refine hA.sapp _ _ _ ⟨?_, fun sl hsl => ?_⟩); rotate_left; cbv) | (simp only [hA.lits]; cbv)
    all_goals try simp only [hA.ar, inR, n_cast, Int.ofNat_eq_natCast, Option.getD_some, Option.getD_none] at *
    all_goals first | omega | rfl | trivial | exact gg1 _ | exact gg2 _ | exact gg3 _ | exact gg4 _ | exact gg5 _ | (rw [hres]; done) | (trace_state; fail))
end Go.Proofs.Ytfplalbognalkaa.Ab
