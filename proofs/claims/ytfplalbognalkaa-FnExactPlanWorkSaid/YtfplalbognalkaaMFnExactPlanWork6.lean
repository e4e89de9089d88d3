/- Plans: the operators made, by the program. -/
import Derived.Test.YtfplalbognalkaaMFnExactPlanWork5
set_option linter.unusedSimpArgs false
set_option linter.unusedVariables false
set_option linter.unnecessarySimpa false
set_option linter.constructorNameAsVariable false
namespace Go.Proofs.Ytfplalbognalkaa.Ab
open Go
theorem nd_sm {d : Pd} {ts : List Tb} {env : Int} {l r o : Ot} (h : ndO d ts env l r = some o) (hl : l.sm ∧ 0 ≤ l.w ∧ l.w ≤ 200) (hr : r.sm ∧ 0 ≤ r.w ∧ r.w ≤ 200) (hx : d.Exs.length ≤ 1048576) (hct : ∀ t : Int, 0 ≤ t → t < ts.length → 0 ≤ colsOf ts t ∧ colsOf ts t ≤ 1000) :
    o.sm ∧ 0 ≤ o.w ∧ o.w ≤ 1048576 := by
  obtain ⟨hl1, hl2, hl3⟩ := hl
  obtain ⟨hr1, hr2, hr3⟩ := hr
  unfold ndO at h
  repeat' split at h
  all_goals first
    | (cases h; done)
    | (cases h; simp only [Ot.sm, Ot.w]; exact ⟨trivial, by omega⟩)
    | (cases h
       rename_i h2
       have := hct d.T (by omega) (by omega)
       simp only [Ot.sm, Ot.w]
       unfold colsOf at this
       exact ⟨by omega, by omega⟩)
    | (cases h; simp only [Ot.sm, Ot.w]; exact ⟨hl1, by omega⟩)
    | (cases h; simp only [Ot.sm, Ot.w]; exact ⟨⟨hx, hl1⟩, by omega⟩)
    | (cases h; simp only [Ot.sm, Ot.w]; exact ⟨⟨by omega, hl1, hr1⟩, by omega⟩)
    | (cases h; simp only [Ot.sm, Ot.w]; exact ⟨⟨hl1, hr1⟩, by omega⟩)
theorem mk_sm {ns : List Pd} {ts : List Tb} (hlen : ∀ d ∈ ns, d.Exs.length ≤ 1048576) (hct : ∀ t : Int, 0 ≤ t → t < ts.length → 0 ≤ colsOf ts t ∧ colsOf ts t ≤ 1000) :
    ∀ (n : Nat) (i env : Int) (o : Ot), 0 ≤ env → mkO ns ts n i env = some o → o.sm ∧ 0 ≤ o.w ∧ o.w + env ≤ 200
  | 0, _, _, _, _, h => by cases h
  | n + 1, i, env, o, he, h => by
    have ih := mk_sm hlen hct n
    obtain ⟨d, hd⟩ : ∃ d, d = ns.getD i.toNat default := ⟨_, rfl⟩
    have hx : d.Exs.length ≤ 1048576 := by
      rw [hd, List.getD]
      cases e : ns[i.toNat]? with
      | none => simp [default, instInhabitedPd.default]
      | some a => exact hlen a (List.mem_of_getElem? e)
    simp only [mkO] at h
    rw [← hd] at h
    split at h
    · cases h
    · cases hl : (if hasL d.K = true then mkO ns ts n d.L env else some Ot.unit) with
      | none => rw [hl] at h; cases h
      | some l =>
        rw [hl] at h
        simp only at h
        have hl2 : l.sm ∧ 0 ≤ l.w ∧ l.w + env ≤ 200 ∨ (l.sm ∧ l.w = 0) := by
          split at hl
          · exact .inl (ih _ _ _ he hl)
          · cases hl; exact .inr ⟨trivial, rfl⟩
        cases hr : (if hasR d.K = true then mkO ns ts n d.R (if depK d.K = true then env + l.w else env) else some Ot.unit) with
        | none => rw [hr] at h; cases h
        | some r =>
          rw [hr] at h
          simp only at h
          have hr2 : r.sm ∧ 0 ≤ r.w ∧ r.w ≤ 200 := by
            split at hr
            · have := ih _ _ _ (by split <;> omega) hr
              refine ⟨this.1, this.2.1, ?_⟩
              have := this.2.2
              split at this <;> omega
            · cases hr; exact ⟨trivial, by simp [Ot.w]⟩
          cases ho : ndO d ts env l r with
          | none => rw [ho] at h; cases h
          | some o' =>
            rw [ho] at h
            simp only at h
            split at h
            · cases h
            · cases h
              have := nd_sm ho (by rcases hl2 with h | h <;> exact ⟨h.1, by omega⟩) hr2 hx hct
              exact ⟨this.1, this.2.1, by omega⟩
theorem wid_of {o : Ot} (h : o.sm) (hw : 0 ≤ o.w ∧ o.w ≤ 1048576) : ∃ T c w, o.E = .ia T c ∧ o.w = w ∧ Wid T c w := ⟨_, _, _, Ot.E_eq o, rfl, wid_ok o h (by omega)⟩
theorem ok189 (K T M : Int) (Ex : List (Int × Int)) (Exs : List (List (Int × Int))) (L R : Int) (x y es xt xst : List (List E)) (hK : 1 ≤ K ∧ K ≤ 10) (hx : x = Ex.map orow) (hy : y = Exs.map orr) (ts : List Tb) (hxt : xt = ts.map tbr) (hxl : x.length ≤ 1048576) (hyl : y.length ≤ 1048576) (hel : ∀ e ∈ Exs, e.length ≤ 1048576) (env : Int) (he : 0 ≤ env ∧ env ≤ 400)
    (l r : Ot) (lE rE : E) (hl : hasL K = true → lE = l.E ∧ l.sm ∧ 0 ≤ l.w ∧ l.w ≤ 200) (hr : hasR K = true → rE = r.E ∧ r.sm ∧ 0 ≤ r.w ∧ r.w ≤ 200) :
    Plain Try.prog 189 [.agg [.e (.sl es), .e (.sl xt), .e (.sl xst)], .agg [.int K, .int T, .int M, .e (.sl x), .e (.sl y), .int L, .int R], .int env, .e lE, .e rE] (.e (optE (ndO ⟨K, T, M, Ex, Exs, L, R⟩ ts env l r))) := by
  rcases (show K = 1 ∨ K = 2 ∨ K = 3 ∨ K = 4 ∨ K = 5 ∨ K = 6 ∨ K = 7 ∨ K = 8 ∨ K = 9 ∨ K = 10 by omega) with rfl | rfl | rfl | rfl | rfl | rfl | rfl | rfl | rfl | rfl
  · exact ok323_1 T M Ex Exs L R x y es xt xst hx hy ts hxt hxl hyl hel env he l lE r rE
  · exact ok323_2 T M Ex Exs L R x y es xt xst hx hy ts hxt hxl hyl hel env he l lE r rE
  · obtain ⟨a1, a2, a3⟩ := hl rfl
    obtain ⟨T1, c1, w1, b1, b2, b3⟩ := wid_of a2 (by omega)
    rw [a1, b1]
    exact ok323_3 T M Ex Exs L R x y es xt xst hx hy ts hxt hxl hyl hel env he l T1 c1 w1 b1 b2 b3 (by omega) r rE
  · obtain ⟨a1, a2, a3⟩ := hl rfl
    obtain ⟨T1, c1, w1, b1, b2, b3⟩ := wid_of a2 (by omega)
    rw [a1, b1]
    exact ok323_4 T M Ex Exs L R x y es xt xst hx hy ts hxt hxl hyl hel env he l T1 c1 w1 b1 b2 b3 (by omega) r rE
  · obtain ⟨a1, a2, a3⟩ := hl rfl
    obtain ⟨T1, c1, w1, b1, b2, b3⟩ := wid_of a2 (by omega)
    rw [a1, b1]
    obtain ⟨a4, a5, a6⟩ := hr rfl
    obtain ⟨T2, c2, w2, b4, b5, b6⟩ := wid_of a5 (by omega)
    rw [a4, b4]
    exact ok323_5 T M Ex Exs L R x y es xt xst hx hy ts hxt hxl hyl hel env he l T1 c1 w1 b1 b2 b3 (by omega) r T2 c2 w2 b4 b5 b6 (by omega)
  · obtain ⟨a1, a2, a3⟩ := hl rfl
    obtain ⟨T1, c1, w1, b1, b2, b3⟩ := wid_of a2 (by omega)
    rw [a1, b1]
    obtain ⟨a4, a5, a6⟩ := hr rfl
    obtain ⟨T2, c2, w2, b4, b5, b6⟩ := wid_of a5 (by omega)
    rw [a4, b4]
    exact ok323_6 T M Ex Exs L R x y es xt xst hx hy ts hxt hxl hyl hel env he l T1 c1 w1 b1 b2 b3 (by omega) r T2 c2 w2 b4 b5 b6 (by omega)
  · obtain ⟨a1, a2, a3⟩ := hl rfl
    obtain ⟨T1, c1, w1, b1, b2, b3⟩ := wid_of a2 (by omega)
    rw [a1, b1]
    obtain ⟨a4, a5, a6⟩ := hr rfl
    obtain ⟨T2, c2, w2, b4, b5, b6⟩ := wid_of a5 (by omega)
    rw [a4, b4]
    exact ok323_7 T M Ex Exs L R x y es xt xst hx hy ts hxt hxl hyl hel env he l T1 c1 w1 b1 b2 b3 (by omega) r T2 c2 w2 b4 b5 b6 (by omega)
  · obtain ⟨a1, a2, a3⟩ := hl rfl
    obtain ⟨T1, c1, w1, b1, b2, b3⟩ := wid_of a2 (by omega)
    rw [a1, b1]
    obtain ⟨a4, a5, a6⟩ := hr rfl
    obtain ⟨T2, c2, w2, b4, b5, b6⟩ := wid_of a5 (by omega)
    rw [a4, b4]
    exact ok323_8 T M Ex Exs L R x y es xt xst hx hy ts hxt hxl hyl hel env he l T1 c1 w1 b1 b2 b3 (by omega) r T2 c2 w2 b4 b5 b6 (by omega)
  · obtain ⟨a1, a2, a3⟩ := hl rfl
    obtain ⟨T1, c1, w1, b1, b2, b3⟩ := wid_of a2 (by omega)
    rw [a1, b1]
    exact ok323_9 T M Ex Exs L R x y es xt xst hx hy ts hxt hxl hyl hel env he l T1 c1 w1 b1 b2 b3 (by omega) r rE
  · obtain ⟨a1, a2, a3⟩ := hl rfl
    obtain ⟨T1, c1, w1, b1, b2, b3⟩ := wid_of a2 (by omega)
    rw [a1, b1]
    obtain ⟨a4, a5, a6⟩ := hr rfl
    obtain ⟨T2, c2, w2, b4, b5, b6⟩ := wid_of a5 (by omega)
    rw [a4, b4]
    exact ok323_10 T M Ex Exs L R x y es xt xst hx hy ts hxt hxl hyl hel env he l T1 c1 w1 b1 b2 b3 (by omega) r T2 c2 w2 b4 b5 b6 (by omega)
set_option maxRecDepth 100000 in
set_option maxHeartbeats 8000000 in
theorem ok147 (ns : List Pd) (x : List (List E)) (hx : x = ns.map pdr) (hxl : x.length ≤ 1048576) (hlen : ∀ d ∈ ns, d.Ex.length ≤ 1048576 ∧ d.Exs.length ≤ 1048576 ∧ ∀ e ∈ d.Exs, e.length ≤ 1048576) (ts : List Tb) (xt : List (List E)) (hxt : xt = ts.map tbr) (hct : ∀ t : Int, 0 ≤ t → t < ts.length → 0 ≤ colsOf ts t ∧ colsOf ts t ≤ 1000) (hin : InP ns) (xst : List (List E)) :
    ∀ (n : Nat) (i env : Int), 0 ≤ i → i < n → i < x.length → 0 ≤ env → env ≤ 200 → Plain Try.prog 147 [.agg [.e (.sl x), .e (.sl xt), .e (.sl xst)], .int i, .int env] (.e (optE (mkO ns ts n i env))) := by
  intro n
  induction n with
  | zero => intro i env h1 h2; omega
  | succ n ih =>
    intro i env h1 h2 h3 he1 he2
    have hi : (0 : Int) ≤ i ∧ i < x.length := ⟨h1, h3⟩
    have hxn : x.length = ns.length := by rw [hx]; simp
    obtain ⟨K, T, M, Ex, Exs, L, R, xe, ye, q0, qm, hxe, hye, q1⟩ := pd_at hx hi
    obtain ⟨hK, hKL, hKR⟩ := hin i h1 (by omega)
    obtain ⟨z1, z2, z3⟩ := hlen _ qm
    rw [q0] at hK hKL hKR
    simp only at hK hKL hKR z1 z2 z3
    have hsm := mk_sm (fun d hd => (hlen d hd).2.1) hct n
    obtain ⟨res, hres⟩ : ∃ e, e = optE (mkO ns ts (n + 1) i env) := ⟨_, rfl⟩
    rw [← hres]
    simp only [mkO] at hres
    rw [q0] at hres
    simp only at hres
    refine okOf mixed p147 fun A P hA hP => ?_
    have h322 := ok188 K T M Ex Exs L R xe ye hxe hye
    obtain ⟨u, hu⟩ : ∃ b, b = usedI ⟨K, T, M, Ex, Exs, L, R⟩ := ⟨_, rfl⟩
    rw [← hu] at h322 hres
    have h251 := ok90 K
    have h252 := ok91 K
    have h253 := ok92 K
    have hLR : hasR K = true → hasL K = true := fun h => by simp [hasR] at h; simp [hasL]; omega
    have h323 := fun (l r : Ot) (lE rE : E) => ok189 K T M Ex Exs L R xe ye x xt xst hK hxe hye ts hxt (by rw [hxe, List.length_map]; exact z1) (by rw [hye, List.length_map]; exact z2) z3 env (by omega) l r lE rE
    obtain ⟨bL, hbL⟩ : ∃ b, b = hasL K := ⟨_, rfl⟩
    obtain ⟨bR, hbR⟩ : ∃ b, b = hasR K := ⟨_, rfl⟩
    obtain ⟨bD, hbD⟩ : ∃ b, b = depK K := ⟨_, rfl⟩
    rw [← hbL] at h251 hres hKL hLR h323
    rw [← hbR] at h252 hres hKR hLR h323
    rw [← hbD] at h253 hres
    have ihL : bL = true → Plain Try.prog 147 [.agg [.e (.sl x), .e (.sl xt), .e (.sl xst)], .int L, .int env] (.e (optE (mkO ns ts n L env))) := fun h => by
      have := hKL h
      exact ih L env this.1 (by omega) (by omega) he1 he2
    have ihR : ∀ env' : Int, bR = true → 0 ≤ env' → env' ≤ 200 → Plain Try.prog 147 [.agg [.e (.sl x), .e (.sl xt), .e (.sl xst)], .int R, .int env'] (.e (optE (mkO ns ts n R env'))) := fun env' h a b => by
      have := hKR h
      exact ih R env' this.1 (by omega) (by omega) a b
    have hsL := hsm L env
    have hsR := hsm R
    obtain ⟨gL, hgL⟩ : ∃ f : Option Ot, f = mkO ns ts n L env := ⟨_, rfl⟩
    obtain ⟨gR, hgR⟩ : ∃ f : Int → Option Ot, f = mkO ns ts n R := ⟨_, rfl⟩
    rw [← hgL] at ihL hres hsL
    rw [← hgR] at ihR hres hsR
    clear hu hbL hbR hbD hgL hgR ih hsm hin hlen q0 qm hKL hKR
    cases u
    case false =>
      have hr2 : res = .v .nilIface := by rw [hres, if_pos rfl]; rfl
      clear hres h323 ihL ihR hsL hsR
      cbv
      repeat' first | with_reducible rfl | with_reducible refine And.intro ?_ ?_ | ((with_reducible intro hcc); first | (cases hcc; done) | skip) | ((with_reducible first | show goC _ _ _ _ _ _ _ _ | show goOps _ _ _ _ _ | show goD _ _ _ _ _ _); cbv) | ((with_reducible show okWr _ _ = _); rfl) | ((with_reducible refine hA.row x i _ ⟨hi, fun row hrow => ?_⟩); rw [q1] at hrow; subst hrow; cbv) | ((with_reducible refine hA.st [_, _, _, _, _, _, _] _ _ _ _ ⟨?_, fun ds hds => ?_⟩); rotate_left; (have hds : ds = [.int K, .int T, .int M, .e (.sl xe), .e (.sl ye), .int L, .int R] := hds); subst hds; cbv) | ((with_reducible first | refine callK_f hA hP h322 ?_ ?_ ?_); exact rfl; exact rfl; cbv) | ((with_reducible first | refine hA.fin_pl _ _ _ ?_ | refine hA.off _ _ _ _ fun b hb => ?_ | refine hA.plus _ _ _ fun b hb => ?_ | refine hA.gb0 true _ ?_ | refine hA.gb0 false _ ?_ | refine hA.gb _ _ fun vb hvb => ?_); cbv) | ((with_reducible first | refine hA.st _ _ _ _ _ ⟨?_, fun ds hds => ?_⟩ | refine hA.sapp _ _ _ ⟨?_, fun sl hsl => ?_⟩); rotate_left; cbv) | (simp only [hA.lits]; cbv)
      all_goals try simp only [hA.ar, inR, n_cast, Int.ofNat_eq_natCast, Option.getD_some, Option.getD_none] at *
      all_goals first | omega | rfl | trivial | (rw [hr2]; done) | (simp; done) | (trace_state; fail)
    case true =>
    rw [if_neg (by simp)] at hres
    cases bL
    · have hbR : bR = false := by cases bR <;> simp_all
      subst hbR
      rw [if_neg (by simp)] at hres
      simp only [Bool.false_eq_true, if_false] at hres
      have h323 := h323 (.unit) (.unit) (.v .nilIface) (.v .nilIface) (fun h => by cases h) (fun h => by cases h)
      cases ho : ndO ⟨K, T, M, Ex, Exs, L, R⟩ ts env (.unit) (.unit) with
      | none =>
        rw [ho] at h323 hres
        have h323 : Plain Try.prog 189 [.agg [.e (.sl x), .e (.sl xt), .e (.sl xst)], .agg [.int K, .int T, .int M, .e (.sl xe), .e (.sl ye), .int L, .int R], .int env, .e (.v .nilIface), .e (.v .nilIface)] (.e (.v .nilIface)) := h323
        have hr2 : res = .v .nilIface := hres
        clear hres hsL hsR ho
        cbv
        repeat' first | with_reducible rfl | with_reducible refine And.intro ?_ ?_ | ((with_reducible intro hcc); first | (cases hcc; done) | skip) | ((with_reducible first | show goC _ _ _ _ _ _ _ _ | show goOps _ _ _ _ _ | show goD _ _ _ _ _ _); cbv) | ((with_reducible show okWr _ _ = _); rfl) | ((with_reducible refine hA.row x i _ ⟨hi, fun row hrow => ?_⟩); rw [q1] at hrow; subst hrow; cbv) | ((with_reducible refine hA.st [_, _, _, _, _, _, _] _ _ _ _ ⟨?_, fun ds hds => ?_⟩); rotate_left; (have hds : ds = [.int K, .int T, .int M, .e (.sl xe), .e (.sl ye), .int L, .int R] := hds); subst hds; cbv) | ((with_reducible first | refine callK_f hA hP h322 ?_ ?_ ?_ | refine callK_f hA hP h251 ?_ ?_ ?_ | refine callK_f hA hP h252 ?_ ?_ ?_ | refine callK_f hA hP h253 ?_ ?_ ?_ | refine callK_f hA hP h323 ?_ ?_ ?_); exact rfl; exact rfl; cbv) | ((with_reducible refine hA.anyd _ (.int 0) ?_); cbv) | ((with_reducible show A.call _ _ _ _ false _ _ _ _); refine callK_no hA (.int 0) ?_; cbv) | ((with_reducible first | refine hA.fin_pl _ _ _ ?_ | refine hA.off _ _ _ _ fun b hb => ?_ | refine hA.plus _ _ _ fun b hb => ?_ | refine hA.gb0 true _ ?_ | refine hA.gb0 false _ ?_ | refine hA.gb _ _ fun vb hvb => ?_); cbv) | ((with_reducible first | refine hA.st _ _ _ _ _ ⟨?_, fun ds hds => ?_⟩ | refine hA.sapp _ _ _ ⟨?_, fun sl hsl => ?_⟩); rotate_left; cbv) | (simp only [hA.lits]; cbv)
        all_goals try simp only [hA.ar, inR, n_cast, Int.ofNat_eq_natCast, Option.getD_some, Option.getD_none] at *
        all_goals first | omega | rfl | trivial | (rw [hr2]; done) | (simp; done) | exact gg1 _ | exact gg2 _ | exact gg3 _ | (trace_state; fail)
      | some o =>
        rw [ho] at h323 hres
        have hos := nd_sm ho ⟨trivial, by simp [Ot.w]⟩ ⟨trivial, by simp [Ot.w]⟩ z2 hct
        obtain ⟨T3, c3, w3, b1, b2, b3⟩ := wid_of hos.1 hos.2
        simp only [b2] at hres
        have h323 : Plain Try.prog 189 [.agg [.e (.sl x), .e (.sl xt), .e (.sl xst)], .agg [.int K, .int T, .int M, .e (.sl xe), .e (.sl ye), .int L, .int R], .int env, .e (.v .nilIface), .e (.v .nilIface)] (.e (.ia T3 c3)) := by rw [← b1]; exact h323
        obtain ⟨⟨fn3, d3, hd3, hfr3, hm3, hp3⟩⟩ := b3
        have hm3 : MRow P T3 "loop.example/s0035/impl.width" fn3 := hP ▸ hm3
        have hw3 : 0 ≤ w3 ∧ w3 ≤ 1048576 := by rw [← b2]; exact hos.2
        obtain ⟨ew, hew⟩ : ∃ z, z = A.add w3 env := ⟨_, rfl⟩
        have hew2 : ew = w3 + env := by rw [hew, hA.add]
        rw [← hew2] at hres
        by_cases h200 : 200 < ew
        · have vw : A.lt 200 ew = true := by rw [hA.lt]; exact decide_eq_true h200
          have hr2 : res = .v .nilIface := by rw [hres, if_pos h200]; rfl
          clear hres hsL hsR ho
          cbv
          repeat' first | with_reducible rfl | (simp only [← hew, vw]; cbv) | with_reducible refine And.intro ?_ ?_ | ((with_reducible intro hcc); first | (cases hcc; done) | skip) | ((with_reducible first | show goC _ _ _ _ _ _ _ _ | show goOps _ _ _ _ _ | show goD _ _ _ _ _ _); cbv) | ((with_reducible show okWr _ _ = _); rfl) | ((with_reducible refine hA.row x i _ ⟨hi, fun row hrow => ?_⟩); rw [q1] at hrow; subst hrow; cbv) | ((with_reducible refine hA.st [_, _, _, _, _, _, _] _ _ _ _ ⟨?_, fun ds hds => ?_⟩); rotate_left; (have hds : ds = [.int K, .int T, .int M, .e (.sl xe), .e (.sl ye), .int L, .int R] := hds); subst hds; cbv) | ((with_reducible first | refine callK_f hA hP h322 ?_ ?_ ?_ | refine callK_f hA hP h251 ?_ ?_ ?_ | refine callK_f hA hP h252 ?_ ?_ ?_ | refine callK_f hA hP h253 ?_ ?_ ?_ | refine callK_f hA hP h323 ?_ ?_ ?_); exact rfl; exact rfl; cbv) | ((with_reducible refine hA.invk hm3 hd3 ?_); cbv) | ((with_reducible show A.call _ _ _ _ _ fn3 _ _ _); refine callK_eq hA hP hfr3 rfl ?_ (Wks.refl _) (fun _ _ => hp3); cbv) | ((with_reducible first | refine hA.fin_pl _ _ _ ?_ | refine hA.off _ _ _ _ fun b hb => ?_ | refine hA.plus _ _ _ fun b hb => ?_ | refine hA.gb0 true _ ?_ | refine hA.gb0 false _ ?_ | refine hA.gb _ _ fun vb hvb => ?_); cbv) | ((with_reducible first | refine hA.st _ _ _ _ _ ⟨?_, fun ds hds => ?_⟩ | refine hA.sapp _ _ _ ⟨?_, fun sl hsl => ?_⟩); rotate_left; cbv) | (simp only [hA.lits]; cbv)
          all_goals try simp only [hA.ar, inR, n_cast, Int.ofNat_eq_natCast, Option.getD_some, Option.getD_none] at *
          all_goals first | omega | rfl | trivial | (rw [hr2]; done) | (simp; done) | exact gg1 _ | exact gg2 _ | exact gg3 _ | (trace_state; fail)
        · have vw : A.lt 200 ew = false := by rw [hA.lt]; exact decide_eq_false h200
          have hr2 : res = .ia T3 c3 := by rw [hres, if_neg h200, optE, b1]
          clear hres hsL hsR ho
          cbv
          repeat' first | with_reducible rfl | (simp only [← hew, vw]; cbv) | with_reducible refine And.intro ?_ ?_ | ((with_reducible intro hcc); first | (cases hcc; done) | skip) | ((with_reducible first | show goC _ _ _ _ _ _ _ _ | show goOps _ _ _ _ _ | show goD _ _ _ _ _ _); cbv) | ((with_reducible show okWr _ _ = _); rfl) | ((with_reducible refine hA.row x i _ ⟨hi, fun row hrow => ?_⟩); rw [q1] at hrow; subst hrow; cbv) | ((with_reducible refine hA.st [_, _, _, _, _, _, _] _ _ _ _ ⟨?_, fun ds hds => ?_⟩); rotate_left; (have hds : ds = [.int K, .int T, .int M, .e (.sl xe), .e (.sl ye), .int L, .int R] := hds); subst hds; cbv) | ((with_reducible first | refine callK_f hA hP h322 ?_ ?_ ?_ | refine callK_f hA hP h251 ?_ ?_ ?_ | refine callK_f hA hP h252 ?_ ?_ ?_ | refine callK_f hA hP h253 ?_ ?_ ?_ | refine callK_f hA hP h323 ?_ ?_ ?_); exact rfl; exact rfl; cbv) | ((with_reducible refine hA.invk hm3 hd3 ?_); cbv) | ((with_reducible show A.call _ _ _ _ _ fn3 _ _ _); refine callK_eq hA hP hfr3 rfl ?_ (Wks.refl _) (fun _ _ => hp3); cbv) | ((with_reducible first | refine hA.fin_pl _ _ _ ?_ | refine hA.off _ _ _ _ fun b hb => ?_ | refine hA.plus _ _ _ fun b hb => ?_ | refine hA.gb0 true _ ?_ | refine hA.gb0 false _ ?_ | refine hA.gb _ _ fun vb hvb => ?_); cbv) | ((with_reducible first | refine hA.st _ _ _ _ _ ⟨?_, fun ds hds => ?_⟩ | refine hA.sapp _ _ _ ⟨?_, fun sl hsl => ?_⟩); rotate_left; cbv) | (simp only [hA.lits]; cbv)
          all_goals try simp only [hA.ar, inR, n_cast, Int.ofNat_eq_natCast, Option.getD_some, Option.getD_none] at *
          all_goals first | omega | rfl | trivial | (rw [hr2]; done) | (simp; done) | exact gg1 _ | exact gg2 _ | exact gg3 _ | (trace_state; fail)
    · rw [if_pos rfl] at hres
      have ihL := ihL rfl
      cases gL with
      | none =>
        have ihL : Plain Try.prog 147 [.agg [.e (.sl x), .e (.sl xt), .e (.sl xst)], .int L, .int env] (.e (.v .nilIface)) := ihL
        have hr2 : res = .v .nilIface := hres
        clear hres ihR hsL hsR h323
        cbv
        repeat' first | with_reducible rfl | with_reducible refine And.intro ?_ ?_ | ((with_reducible intro hcc); first | (cases hcc; done) | skip) | ((with_reducible first | show goC _ _ _ _ _ _ _ _ | show goOps _ _ _ _ _ | show goD _ _ _ _ _ _); cbv) | ((with_reducible show okWr _ _ = _); rfl) | ((with_reducible refine hA.row x i _ ⟨hi, fun row hrow => ?_⟩); rw [q1] at hrow; subst hrow; cbv) | ((with_reducible refine hA.st [_, _, _, _, _, _, _] _ _ _ _ ⟨?_, fun ds hds => ?_⟩); rotate_left; (have hds : ds = [.int K, .int T, .int M, .e (.sl xe), .e (.sl ye), .int L, .int R] := hds); subst hds; cbv) | ((with_reducible first | refine callK_f hA hP h322 ?_ ?_ ?_ | refine callK_f hA hP h251 ?_ ?_ ?_ | refine callK_f hA hP h252 ?_ ?_ ?_ | refine callK_f hA hP h253 ?_ ?_ ?_ | refine callK_f hA hP ihL ?_ ?_ ?_); exact rfl; exact rfl; cbv) | ((with_reducible first | refine hA.fin_pl _ _ _ ?_ | refine hA.off _ _ _ _ fun b hb => ?_ | refine hA.plus _ _ _ fun b hb => ?_ | refine hA.gb0 true _ ?_ | refine hA.gb0 false _ ?_ | refine hA.gb _ _ fun vb hvb => ?_); cbv) | ((with_reducible first | refine hA.st _ _ _ _ _ ⟨?_, fun ds hds => ?_⟩ | refine hA.sapp _ _ _ ⟨?_, fun sl hsl => ?_⟩); rotate_left; cbv) | (simp only [hA.lits]; cbv)
        all_goals try simp only [hA.ar, inR, n_cast, Int.ofNat_eq_natCast, Option.getD_some, Option.getD_none] at *
        all_goals first | omega | rfl | trivial | (rw [hr2]; done) | (simp; done) | exact gg1 _ | exact gg2 _ | exact gg3 _ | (trace_state; fail)
      | some l =>
        have hs1 := hsL l he1 rfl
        obtain ⟨T1, c1, w1, a1, a2, a3⟩ := wid_of hs1.1 (by omega)
        have ihL : Plain Try.prog 147 [.agg [.e (.sl x), .e (.sl xt), .e (.sl xst)], .int L, .int env] (.e (.ia T1 c1)) := by rw [← a1]; exact ihL
        simp only [a2] at hres
        cases bR
        · simp only [Bool.false_eq_true, if_false] at hres
          have h323 := h323 (l) (.unit) (.ia T1 c1) (.v .nilIface) (fun _ => ⟨a1.symm, hs1.1, by omega⟩) (fun h => by cases h)
          cases ho : ndO ⟨K, T, M, Ex, Exs, L, R⟩ ts env (l) (.unit) with
          | none =>
            rw [ho] at h323 hres
            have h323 : Plain Try.prog 189 [.agg [.e (.sl x), .e (.sl xt), .e (.sl xst)], .agg [.int K, .int T, .int M, .e (.sl xe), .e (.sl ye), .int L, .int R], .int env, .e (.ia T1 c1), .e (.v .nilIface)] (.e (.v .nilIface)) := h323
            have hr2 : res = .v .nilIface := hres
            clear hres hsL hsR ho
            cbv
            repeat' first | with_reducible rfl | with_reducible refine And.intro ?_ ?_ | ((with_reducible intro hcc); first | (cases hcc; done) | skip) | ((with_reducible first | show goC _ _ _ _ _ _ _ _ | show goOps _ _ _ _ _ | show goD _ _ _ _ _ _); cbv) | ((with_reducible show okWr _ _ = _); rfl) | ((with_reducible refine hA.row x i _ ⟨hi, fun row hrow => ?_⟩); rw [q1] at hrow; subst hrow; cbv) | ((with_reducible refine hA.st [_, _, _, _, _, _, _] _ _ _ _ ⟨?_, fun ds hds => ?_⟩); rotate_left; (have hds : ds = [.int K, .int T, .int M, .e (.sl xe), .e (.sl ye), .int L, .int R] := hds); subst hds; cbv) | ((with_reducible first | refine callK_f hA hP h322 ?_ ?_ ?_ | refine callK_f hA hP h251 ?_ ?_ ?_ | refine callK_f hA hP h252 ?_ ?_ ?_ | refine callK_f hA hP h253 ?_ ?_ ?_ | refine callK_f hA hP ihL ?_ ?_ ?_ | refine callK_f hA hP h323 ?_ ?_ ?_); exact rfl; exact rfl; cbv) | ((with_reducible refine hA.anyd _ (.int 0) ?_); cbv) | ((with_reducible show A.call _ _ _ _ false _ _ _ _); refine callK_no hA (.int 0) ?_; cbv) | ((with_reducible first | refine hA.fin_pl _ _ _ ?_ | refine hA.off _ _ _ _ fun b hb => ?_ | refine hA.plus _ _ _ fun b hb => ?_ | refine hA.gb0 true _ ?_ | refine hA.gb0 false _ ?_ | refine hA.gb _ _ fun vb hvb => ?_); cbv) | ((with_reducible first | refine hA.st _ _ _ _ _ ⟨?_, fun ds hds => ?_⟩ | refine hA.sapp _ _ _ ⟨?_, fun sl hsl => ?_⟩); rotate_left; cbv) | (simp only [hA.lits]; cbv)
            all_goals try simp only [hA.ar, inR, n_cast, Int.ofNat_eq_natCast, Option.getD_some, Option.getD_none] at *
            all_goals first | omega | rfl | trivial | (rw [hr2]; done) | (simp; done) | exact gg1 _ | exact gg2 _ | exact gg3 _ | (trace_state; fail)
          | some o =>
            rw [ho] at h323 hres
            have hos := nd_sm ho ⟨hs1.1, by omega⟩ ⟨trivial, by simp [Ot.w]⟩ z2 hct
            obtain ⟨T3, c3, w3, b1, b2, b3⟩ := wid_of hos.1 hos.2
            simp only [b2] at hres
            have h323 : Plain Try.prog 189 [.agg [.e (.sl x), .e (.sl xt), .e (.sl xst)], .agg [.int K, .int T, .int M, .e (.sl xe), .e (.sl ye), .int L, .int R], .int env, .e (.ia T1 c1), .e (.v .nilIface)] (.e (.ia T3 c3)) := by rw [← b1]; exact h323
            obtain ⟨⟨fn3, d3, hd3, hfr3, hm3, hp3⟩⟩ := b3
            have hm3 : MRow P T3 "loop.example/s0035/impl.width" fn3 := hP ▸ hm3
            have hw3 : 0 ≤ w3 ∧ w3 ≤ 1048576 := by rw [← b2]; exact hos.2
            obtain ⟨ew, hew⟩ : ∃ z, z = A.add w3 env := ⟨_, rfl⟩
            have hew2 : ew = w3 + env := by rw [hew, hA.add]
            rw [← hew2] at hres
            by_cases h200 : 200 < ew
            · have vw : A.lt 200 ew = true := by rw [hA.lt]; exact decide_eq_true h200
              have hr2 : res = .v .nilIface := by rw [hres, if_pos h200]; rfl
              clear hres hsL hsR ho
              cbv
              repeat' first | with_reducible rfl | (simp only [← hew, vw]; cbv) | with_reducible refine And.intro ?_ ?_ | ((with_reducible intro hcc); first | (cases hcc; done) | skip) | ((with_reducible first | show goC _ _ _ _ _ _ _ _ | show goOps _ _ _ _ _ | show goD _ _ _ _ _ _); cbv) | ((with_reducible show okWr _ _ = _); rfl) | ((with_reducible refine hA.row x i _ ⟨hi, fun row hrow => ?_⟩); rw [q1] at hrow; subst hrow; cbv) | ((with_reducible refine hA.st [_, _, _, _, _, _, _] _ _ _ _ ⟨?_, fun ds hds => ?_⟩); rotate_left; (have hds : ds = [.int K, .int T, .int M, .e (.sl xe), .e (.sl ye), .int L, .int R] := hds); subst hds; cbv) | ((with_reducible first | refine callK_f hA hP h322 ?_ ?_ ?_ | refine callK_f hA hP h251 ?_ ?_ ?_ | refine callK_f hA hP h252 ?_ ?_ ?_ | refine callK_f hA hP h253 ?_ ?_ ?_ | refine callK_f hA hP ihL ?_ ?_ ?_ | refine callK_f hA hP h323 ?_ ?_ ?_); exact rfl; exact rfl; cbv) | ((with_reducible refine hA.invk hm3 hd3 ?_); cbv) | ((with_reducible show A.call _ _ _ _ _ fn3 _ _ _); refine callK_eq hA hP hfr3 rfl ?_ (Wks.refl _) (fun _ _ => hp3); cbv) | ((with_reducible first | refine hA.fin_pl _ _ _ ?_ | refine hA.off _ _ _ _ fun b hb => ?_ | refine hA.plus _ _ _ fun b hb => ?_ | refine hA.gb0 true _ ?_ | refine hA.gb0 false _ ?_ | refine hA.gb _ _ fun vb hvb => ?_); cbv) | ((with_reducible first | refine hA.st _ _ _ _ _ ⟨?_, fun ds hds => ?_⟩ | refine hA.sapp _ _ _ ⟨?_, fun sl hsl => ?_⟩); rotate_left; cbv) | (simp only [hA.lits]; cbv)
              all_goals try simp only [hA.ar, inR, n_cast, Int.ofNat_eq_natCast, Option.getD_some, Option.getD_none] at *
              all_goals first | omega | rfl | trivial | (rw [hr2]; done) | (simp; done) | exact gg1 _ | exact gg2 _ | exact gg3 _ | (trace_state; fail)
            · have vw : A.lt 200 ew = false := by rw [hA.lt]; exact decide_eq_false h200
              have hr2 : res = .ia T3 c3 := by rw [hres, if_neg h200, optE, b1]
              clear hres hsL hsR ho
              cbv
              repeat' first | with_reducible rfl | (simp only [← hew, vw]; cbv) | with_reducible refine And.intro ?_ ?_ | ((with_reducible intro hcc); first | (cases hcc; done) | skip) | ((with_reducible first | show goC _ _ _ _ _ _ _ _ | show goOps _ _ _ _ _ | show goD _ _ _ _ _ _); cbv) | ((with_reducible show okWr _ _ = _); rfl) | ((with_reducible refine hA.row x i _ ⟨hi, fun row hrow => ?_⟩); rw [q1] at hrow; subst hrow; cbv) | ((with_reducible refine hA.st [_, _, _, _, _, _, _] _ _ _ _ ⟨?_, fun ds hds => ?_⟩); rotate_left; (have hds : ds = [.int K, .int T, .int M, .e (.sl xe), .e (.sl ye), .int L, .int R] := hds); subst hds; cbv) | ((with_reducible first | refine callK_f hA hP h322 ?_ ?_ ?_ | refine callK_f hA hP h251 ?_ ?_ ?_ | refine callK_f hA hP h252 ?_ ?_ ?_ | refine callK_f hA hP h253 ?_ ?_ ?_ | refine callK_f hA hP ihL ?_ ?_ ?_ | refine callK_f hA hP h323 ?_ ?_ ?_); exact rfl; exact rfl; cbv) | ((with_reducible refine hA.invk hm3 hd3 ?_); cbv) | ((with_reducible show A.call _ _ _ _ _ fn3 _ _ _); refine callK_eq hA hP hfr3 rfl ?_ (Wks.refl _) (fun _ _ => hp3); cbv) | ((with_reducible first | refine hA.fin_pl _ _ _ ?_ | refine hA.off _ _ _ _ fun b hb => ?_ | refine hA.plus _ _ _ fun b hb => ?_ | refine hA.gb0 true _ ?_ | refine hA.gb0 false _ ?_ | refine hA.gb _ _ fun vb hvb => ?_); cbv) | ((with_reducible first | refine hA.st _ _ _ _ _ ⟨?_, fun ds hds => ?_⟩ | refine hA.sapp _ _ _ ⟨?_, fun sl hsl => ?_⟩); rotate_left; cbv) | (simp only [hA.lits]; cbv)
              all_goals try simp only [hA.ar, inR, n_cast, Int.ofNat_eq_natCast, Option.getD_some, Option.getD_none] at *
              all_goals first | omega | rfl | trivial | (rw [hr2]; done) | (simp; done) | exact gg1 _ | exact gg2 _ | exact gg3 _ | (trace_state; fail)
        · simp only [if_true] at hres
          obtain ⟨⟨fn1, d1, hd1, hfr1, hm1, hp1⟩⟩ := a3
          have hm1 : MRow P T1 "loop.example/s0035/impl.width" fn1 := hP ▸ hm1
          have hw1 : 0 ≤ w1 ∧ w1 + env ≤ 200 := by rw [← a2]; exact hs1.2
          obtain ⟨e2, he2⟩ : ∃ z, z = if bD = true then env + w1 else env := ⟨_, rfl⟩
          have he2' : 0 ≤ e2 ∧ e2 ≤ 200 := by rw [he2]; split <;> omega
          rw [← he2] at hres
          have ihR := ihR e2 rfl he2'.1 he2'.2
          have hsR := hsR e2
          obtain ⟨gr, hgr⟩ : ∃ g, g = gR e2 := ⟨_, rfl⟩
          rw [← hgr] at hres ihR hsR
          clear hgr
          have hv2 : bD = true → A.add env w1 = e2 := fun h => by rw [hA.add, he2, if_pos h]
          cases gr with
          | none =>
            have ihR : Plain Try.prog 147 [.agg [.e (.sl x), .e (.sl xt), .e (.sl xst)], .int R, .int e2] (.e (.v .nilIface)) := ihR
            have hr2 : res = .v .nilIface := hres
            clear hres hsL hsR h323
            cases bD
            · have he3 : e2 = env := by rw [he2]; simp
              rw [he3] at ihR
              clear he2 hv2 he2'
              cbv
              repeat' first | with_reducible rfl | with_reducible refine And.intro ?_ ?_ | ((with_reducible intro hcc); first | (cases hcc; done) | skip) | ((with_reducible first | show goC _ _ _ _ _ _ _ _ | show goOps _ _ _ _ _ | show goD _ _ _ _ _ _); cbv) | ((with_reducible show okWr _ _ = _); rfl) | ((with_reducible refine hA.row x i _ ⟨hi, fun row hrow => ?_⟩); rw [q1] at hrow; subst hrow; cbv) | ((with_reducible refine hA.st [_, _, _, _, _, _, _] _ _ _ _ ⟨?_, fun ds hds => ?_⟩); rotate_left; (have hds : ds = [.int K, .int T, .int M, .e (.sl xe), .e (.sl ye), .int L, .int R] := hds); subst hds; cbv) | ((with_reducible first | refine callK_f hA hP h322 ?_ ?_ ?_ | refine callK_f hA hP h251 ?_ ?_ ?_ | refine callK_f hA hP h252 ?_ ?_ ?_ | refine callK_f hA hP h253 ?_ ?_ ?_ | refine callK_f hA hP ihL ?_ ?_ ?_ | refine callK_f hA hP ihR ?_ ?_ ?_); exact rfl; exact rfl; cbv) | ((with_reducible first | refine hA.fin_pl _ _ _ ?_ | refine hA.off _ _ _ _ fun b hb => ?_ | refine hA.plus _ _ _ fun b hb => ?_ | refine hA.gb0 true _ ?_ | refine hA.gb0 false _ ?_ | refine hA.gb _ _ fun vb hvb => ?_); cbv) | ((with_reducible first | refine hA.st _ _ _ _ _ ⟨?_, fun ds hds => ?_⟩ | refine hA.sapp _ _ _ ⟨?_, fun sl hsl => ?_⟩); rotate_left; cbv) | (simp only [hA.lits]; cbv)
              all_goals try simp only [hA.ar, inR, n_cast, Int.ofNat_eq_natCast, Option.getD_some, Option.getD_none] at *
              all_goals first | omega | rfl | trivial | (rw [hr2]; done) | (simp; done) | exact gg1 _ | exact gg2 _ | exact gg3 _ | (trace_state; fail)
            · have hv2 := hv2 rfl
              clear he2
              cbv
              repeat' first | with_reducible rfl | (simp only [hv2]; cbv) | with_reducible refine And.intro ?_ ?_ | ((with_reducible intro hcc); first | (cases hcc; done) | skip) | ((with_reducible first | show goC _ _ _ _ _ _ _ _ | show goOps _ _ _ _ _ | show goD _ _ _ _ _ _); cbv) | ((with_reducible show okWr _ _ = _); rfl) | ((with_reducible refine hA.row x i _ ⟨hi, fun row hrow => ?_⟩); rw [q1] at hrow; subst hrow; cbv) | ((with_reducible refine hA.st [_, _, _, _, _, _, _] _ _ _ _ ⟨?_, fun ds hds => ?_⟩); rotate_left; (have hds : ds = [.int K, .int T, .int M, .e (.sl xe), .e (.sl ye), .int L, .int R] := hds); subst hds; cbv) | ((with_reducible first | refine callK_f hA hP h322 ?_ ?_ ?_ | refine callK_f hA hP h251 ?_ ?_ ?_ | refine callK_f hA hP h252 ?_ ?_ ?_ | refine callK_f hA hP h253 ?_ ?_ ?_ | refine callK_f hA hP ihL ?_ ?_ ?_ | refine callK_f hA hP ihR ?_ ?_ ?_); exact rfl; exact rfl; cbv) | ((with_reducible refine hA.invk hm1 hd1 ?_); cbv) | ((with_reducible show A.call _ _ _ _ _ fn1 _ _ _); refine callK_eq hA hP hfr1 rfl ?_ (Wks.refl _) (fun _ _ => hp1); cbv) | ((with_reducible first | refine hA.fin_pl _ _ _ ?_ | refine hA.off _ _ _ _ fun b hb => ?_ | refine hA.plus _ _ _ fun b hb => ?_ | refine hA.gb0 true _ ?_ | refine hA.gb0 false _ ?_ | refine hA.gb _ _ fun vb hvb => ?_); cbv) | ((with_reducible first | refine hA.st _ _ _ _ _ ⟨?_, fun ds hds => ?_⟩ | refine hA.sapp _ _ _ ⟨?_, fun sl hsl => ?_⟩); rotate_left; cbv) | (simp only [hA.lits]; cbv)
              all_goals try simp only [hA.ar, inR, n_cast, Int.ofNat_eq_natCast, Option.getD_some, Option.getD_none] at *
              all_goals first | omega | rfl | trivial | (rw [hr2]; done) | (simp; done) | exact gg1 _ | exact gg2 _ | exact gg3 _ | (trace_state; fail)
          | some r =>
            have hs2 := hsR r he2'.1 rfl
            obtain ⟨T2, c2, w2, a4, a5, a6⟩ := wid_of hs2.1 (by omega)
            have ihR : Plain Try.prog 147 [.agg [.e (.sl x), .e (.sl xt), .e (.sl xst)], .int R, .int e2] (.e (.ia T2 c2)) := by rw [← a4]; exact ihR
            simp only at hres
            cases bD
            · have he3 : e2 = env := by rw [he2]; simp
              rw [he3] at ihR
              clear he2 hv2
              have h323 := h323 (l) (r) (.ia T1 c1) (.ia T2 c2) (fun _ => ⟨a1.symm, hs1.1, by omega⟩) (fun _ => ⟨a4.symm, hs2.1, by omega⟩)
              cases ho : ndO ⟨K, T, M, Ex, Exs, L, R⟩ ts env (l) (r) with
              | none =>
                rw [ho] at h323 hres
                have h323 : Plain Try.prog 189 [.agg [.e (.sl x), .e (.sl xt), .e (.sl xst)], .agg [.int K, .int T, .int M, .e (.sl xe), .e (.sl ye), .int L, .int R], .int env, .e (.ia T1 c1), .e (.ia T2 c2)] (.e (.v .nilIface)) := h323
                have hr2 : res = .v .nilIface := hres
                clear hres hsL hsR ho
                cbv
                repeat' first | with_reducible rfl | with_reducible refine And.intro ?_ ?_ | ((with_reducible intro hcc); first | (cases hcc; done) | skip) | ((with_reducible first | show goC _ _ _ _ _ _ _ _ | show goOps _ _ _ _ _ | show goD _ _ _ _ _ _); cbv) | ((with_reducible show okWr _ _ = _); rfl) | ((with_reducible refine hA.row x i _ ⟨hi, fun row hrow => ?_⟩); rw [q1] at hrow; subst hrow; cbv) | ((with_reducible refine hA.st [_, _, _, _, _, _, _] _ _ _ _ ⟨?_, fun ds hds => ?_⟩); rotate_left; (have hds : ds = [.int K, .int T, .int M, .e (.sl xe), .e (.sl ye), .int L, .int R] := hds); subst hds; cbv) | ((with_reducible first | refine callK_f hA hP h322 ?_ ?_ ?_ | refine callK_f hA hP h251 ?_ ?_ ?_ | refine callK_f hA hP h252 ?_ ?_ ?_ | refine callK_f hA hP h253 ?_ ?_ ?_ | refine callK_f hA hP ihL ?_ ?_ ?_ | refine callK_f hA hP ihR ?_ ?_ ?_ | refine callK_f hA hP h323 ?_ ?_ ?_); exact rfl; exact rfl; cbv) | ((with_reducible refine hA.anyd _ (.int 0) ?_); cbv) | ((with_reducible show A.call _ _ _ _ false _ _ _ _); refine callK_no hA (.int 0) ?_; cbv) | ((with_reducible first | refine hA.fin_pl _ _ _ ?_ | refine hA.off _ _ _ _ fun b hb => ?_ | refine hA.plus _ _ _ fun b hb => ?_ | refine hA.gb0 true _ ?_ | refine hA.gb0 false _ ?_ | refine hA.gb _ _ fun vb hvb => ?_); cbv) | ((with_reducible first | refine hA.st _ _ _ _ _ ⟨?_, fun ds hds => ?_⟩ | refine hA.sapp _ _ _ ⟨?_, fun sl hsl => ?_⟩); rotate_left; cbv) | (simp only [hA.lits]; cbv)
                all_goals try simp only [hA.ar, inR, n_cast, Int.ofNat_eq_natCast, Option.getD_some, Option.getD_none] at *
                all_goals first | omega | rfl | trivial | (rw [hr2]; done) | (simp; done) | exact gg1 _ | exact gg2 _ | exact gg3 _ | (trace_state; fail)
              | some o =>
                rw [ho] at h323 hres
                have hos := nd_sm ho ⟨hs1.1, by omega⟩ ⟨hs2.1, by omega⟩ z2 hct
                obtain ⟨T3, c3, w3, b1, b2, b3⟩ := wid_of hos.1 hos.2
                simp only [b2] at hres
                have h323 : Plain Try.prog 189 [.agg [.e (.sl x), .e (.sl xt), .e (.sl xst)], .agg [.int K, .int T, .int M, .e (.sl xe), .e (.sl ye), .int L, .int R], .int env, .e (.ia T1 c1), .e (.ia T2 c2)] (.e (.ia T3 c3)) := by rw [← b1]; exact h323
                obtain ⟨⟨fn3, d3, hd3, hfr3, hm3, hp3⟩⟩ := b3
                have hm3 : MRow P T3 "loop.example/s0035/impl.width" fn3 := hP ▸ hm3
                have hw3 : 0 ≤ w3 ∧ w3 ≤ 1048576 := by rw [← b2]; exact hos.2
                obtain ⟨ew, hew⟩ : ∃ z, z = A.add w3 env := ⟨_, rfl⟩
                have hew2 : ew = w3 + env := by rw [hew, hA.add]
                rw [← hew2] at hres
                by_cases h200 : 200 < ew
                · have vw : A.lt 200 ew = true := by rw [hA.lt]; exact decide_eq_true h200
                  have hr2 : res = .v .nilIface := by rw [hres, if_pos h200]; rfl
                  clear hres hsL hsR ho
                  cbv
                  repeat' first | with_reducible rfl | (simp only [← hew, vw]; cbv) | with_reducible refine And.intro ?_ ?_ | ((with_reducible intro hcc); first | (cases hcc; done) | skip) | ((with_reducible first | show goC _ _ _ _ _ _ _ _ | show goOps _ _ _ _ _ | show goD _ _ _ _ _ _); cbv) | ((with_reducible show okWr _ _ = _); rfl) | ((with_reducible refine hA.row x i _ ⟨hi, fun row hrow => ?_⟩); rw [q1] at hrow; subst hrow; cbv) | ((with_reducible refine hA.st [_, _, _, _, _, _, _] _ _ _ _ ⟨?_, fun ds hds => ?_⟩); rotate_left; (have hds : ds = [.int K, .int T, .int M, .e (.sl xe), .e (.sl ye), .int L, .int R] := hds); subst hds; cbv) | ((with_reducible first | refine callK_f hA hP h322 ?_ ?_ ?_ | refine callK_f hA hP h251 ?_ ?_ ?_ | refine callK_f hA hP h252 ?_ ?_ ?_ | refine callK_f hA hP h253 ?_ ?_ ?_ | refine callK_f hA hP ihL ?_ ?_ ?_ | refine callK_f hA hP ihR ?_ ?_ ?_ | refine callK_f hA hP h323 ?_ ?_ ?_); exact rfl; exact rfl; cbv) | ((with_reducible refine hA.invk hm3 hd3 ?_); cbv) | ((with_reducible show A.call _ _ _ _ _ fn3 _ _ _); refine callK_eq hA hP hfr3 rfl ?_ (Wks.refl _) (fun _ _ => hp3); cbv) | ((with_reducible first | refine hA.fin_pl _ _ _ ?_ | refine hA.off _ _ _ _ fun b hb => ?_ | refine hA.plus _ _ _ fun b hb => ?_ | refine hA.gb0 true _ ?_ | refine hA.gb0 false _ ?_ | refine hA.gb _ _ fun vb hvb => ?_); cbv) | ((with_reducible first | refine hA.st _ _ _ _ _ ⟨?_, fun ds hds => ?_⟩ | refine hA.sapp _ _ _ ⟨?_, fun sl hsl => ?_⟩); rotate_left; cbv) | (simp only [hA.lits]; cbv)
                  all_goals try simp only [hA.ar, inR, n_cast, Int.ofNat_eq_natCast, Option.getD_some, Option.getD_none] at *
                  all_goals first | omega | rfl | trivial | (rw [hr2]; done) | (simp; done) | exact gg1 _ | exact gg2 _ | exact gg3 _ | (trace_state; fail)
                · have vw : A.lt 200 ew = false := by rw [hA.lt]; exact decide_eq_false h200
                  have hr2 : res = .ia T3 c3 := by rw [hres, if_neg h200, optE, b1]
                  clear hres hsL hsR ho
                  cbv
                  repeat' first | with_reducible rfl | (simp only [← hew, vw]; cbv) | with_reducible refine And.intro ?_ ?_ | ((with_reducible intro hcc); first | (cases hcc; done) | skip) | ((with_reducible first | show goC _ _ _ _ _ _ _ _ | show goOps _ _ _ _ _ | show goD _ _ _ _ _ _); cbv) | ((with_reducible show okWr _ _ = _); rfl) | ((with_reducible refine hA.row x i _ ⟨hi, fun row hrow => ?_⟩); rw [q1] at hrow; subst hrow; cbv) | ((with_reducible refine hA.st [_, _, _, _, _, _, _] _ _ _ _ ⟨?_, fun ds hds => ?_⟩); rotate_left; (have hds : ds = [.int K, .int T, .int M, .e (.sl xe), .e (.sl ye), .int L, .int R] := hds); subst hds; cbv) | ((with_reducible first | refine callK_f hA hP h322 ?_ ?_ ?_ | refine callK_f hA hP h251 ?_ ?_ ?_ | refine callK_f hA hP h252 ?_ ?_ ?_ | refine callK_f hA hP h253 ?_ ?_ ?_ | refine callK_f hA hP ihL ?_ ?_ ?_ | refine callK_f hA hP ihR ?_ ?_ ?_ | refine callK_f hA hP h323 ?_ ?_ ?_); exact rfl; exact rfl; cbv) | ((with_reducible refine hA.invk hm3 hd3 ?_); cbv) | ((with_reducible show A.call _ _ _ _ _ fn3 _ _ _); refine callK_eq hA hP hfr3 rfl ?_ (Wks.refl _) (fun _ _ => hp3); cbv) | ((with_reducible first | refine hA.fin_pl _ _ _ ?_ | refine hA.off _ _ _ _ fun b hb => ?_ | refine hA.plus _ _ _ fun b hb => ?_ | refine hA.gb0 true _ ?_ | refine hA.gb0 false _ ?_ | refine hA.gb _ _ fun vb hvb => ?_); cbv) | ((with_reducible first | refine hA.st _ _ _ _ _ ⟨?_, fun ds hds => ?_⟩ | refine hA.sapp _ _ _ ⟨?_, fun sl hsl => ?_⟩); rotate_left; cbv) | (simp only [hA.lits]; cbv)
                  all_goals try simp only [hA.ar, inR, n_cast, Int.ofNat_eq_natCast, Option.getD_some, Option.getD_none] at *
                  all_goals first | omega | rfl | trivial | (rw [hr2]; done) | (simp; done) | exact gg1 _ | exact gg2 _ | exact gg3 _ | (trace_state; fail)
            · have hv2 := hv2 rfl
              clear he2
              have h323 := h323 (l) (r) (.ia T1 c1) (.ia T2 c2) (fun _ => ⟨a1.symm, hs1.1, by omega⟩) (fun _ => ⟨a4.symm, hs2.1, by omega⟩)
              cases ho : ndO ⟨K, T, M, Ex, Exs, L, R⟩ ts env (l) (r) with
              | none =>
                rw [ho] at h323 hres
                have h323 : Plain Try.prog 189 [.agg [.e (.sl x), .e (.sl xt), .e (.sl xst)], .agg [.int K, .int T, .int M, .e (.sl xe), .e (.sl ye), .int L, .int R], .int env, .e (.ia T1 c1), .e (.ia T2 c2)] (.e (.v .nilIface)) := h323
                have hr2 : res = .v .nilIface := hres
                clear hres hsL hsR ho
                cbv
                repeat' first | with_reducible rfl | (simp only [hv2]; cbv) | with_reducible refine And.intro ?_ ?_ | ((with_reducible intro hcc); first | (cases hcc; done) | skip) | ((with_reducible first | show goC _ _ _ _ _ _ _ _ | show goOps _ _ _ _ _ | show goD _ _ _ _ _ _); cbv) | ((with_reducible show okWr _ _ = _); rfl) | ((with_reducible refine hA.row x i _ ⟨hi, fun row hrow => ?_⟩); rw [q1] at hrow; subst hrow; cbv) | ((with_reducible refine hA.st [_, _, _, _, _, _, _] _ _ _ _ ⟨?_, fun ds hds => ?_⟩); rotate_left; (have hds : ds = [.int K, .int T, .int M, .e (.sl xe), .e (.sl ye), .int L, .int R] := hds); subst hds; cbv) | ((with_reducible first | refine callK_f hA hP h322 ?_ ?_ ?_ | refine callK_f hA hP h251 ?_ ?_ ?_ | refine callK_f hA hP h252 ?_ ?_ ?_ | refine callK_f hA hP h253 ?_ ?_ ?_ | refine callK_f hA hP ihL ?_ ?_ ?_ | refine callK_f hA hP ihR ?_ ?_ ?_); exact rfl; exact rfl; cbv) | ((with_reducible refine hA.invk hm1 hd1 ?_); cbv) | ((with_reducible show A.call _ _ _ _ _ fn1 _ _ _); refine callK_eq hA hP hfr1 rfl ?_ (Wks.refl _) (fun _ _ => hp1); cbv) | ((with_reducible first | refine callK_f hA hP h323 ?_ ?_ ?_); exact rfl; exact rfl; cbv) | ((with_reducible refine hA.anyd _ (.int 0) ?_); cbv) | ((with_reducible show A.call _ _ _ _ false _ _ _ _); refine callK_no hA (.int 0) ?_; cbv) | ((with_reducible first | refine hA.fin_pl _ _ _ ?_ | refine hA.off _ _ _ _ fun b hb => ?_ | refine hA.plus _ _ _ fun b hb => ?_ | refine hA.gb0 true _ ?_ | refine hA.gb0 false _ ?_ | refine hA.gb _ _ fun vb hvb => ?_); cbv) | ((with_reducible first | refine hA.st _ _ _ _ _ ⟨?_, fun ds hds => ?_⟩ | refine hA.sapp _ _ _ ⟨?_, fun sl hsl => ?_⟩); rotate_left; cbv) | (simp only [hA.lits]; cbv)
                all_goals try simp only [hA.ar, inR, n_cast, Int.ofNat_eq_natCast, Option.getD_some, Option.getD_none] at *
                all_goals first | omega | rfl | trivial | (rw [hr2]; done) | (simp; done) | exact gg1 _ | exact gg2 _ | exact gg3 _ | (trace_state; fail)
              | some o =>
                rw [ho] at h323 hres
                have hos := nd_sm ho ⟨hs1.1, by omega⟩ ⟨hs2.1, by omega⟩ z2 hct
                obtain ⟨T3, c3, w3, b1, b2, b3⟩ := wid_of hos.1 hos.2
                simp only [b2] at hres
                have h323 : Plain Try.prog 189 [.agg [.e (.sl x), .e (.sl xt), .e (.sl xst)], .agg [.int K, .int T, .int M, .e (.sl xe), .e (.sl ye), .int L, .int R], .int env, .e (.ia T1 c1), .e (.ia T2 c2)] (.e (.ia T3 c3)) := by rw [← b1]; exact h323
                obtain ⟨⟨fn3, d3, hd3, hfr3, hm3, hp3⟩⟩ := b3
                have hm3 : MRow P T3 "loop.example/s0035/impl.width" fn3 := hP ▸ hm3
                have hw3 : 0 ≤ w3 ∧ w3 ≤ 1048576 := by rw [← b2]; exact hos.2
                obtain ⟨ew, hew⟩ : ∃ z, z = A.add w3 env := ⟨_, rfl⟩
                have hew2 : ew = w3 + env := by rw [hew, hA.add]
                rw [← hew2] at hres
                by_cases h200 : 200 < ew
                · have vw : A.lt 200 ew = true := by rw [hA.lt]; exact decide_eq_true h200
                  have hr2 : res = .v .nilIface := by rw [hres, if_pos h200]; rfl
                  clear hres hsL hsR ho
                  cbv
                  repeat' first | with_reducible rfl | (simp only [hv2, ← hew, vw]; cbv) | with_reducible refine And.intro ?_ ?_ | ((with_reducible intro hcc); first | (cases hcc; done) | skip) | ((with_reducible first | show goC _ _ _ _ _ _ _ _ | show goOps _ _ _ _ _ | show goD _ _ _ _ _ _); cbv) | ((with_reducible show okWr _ _ = _); rfl) | ((with_reducible refine hA.row x i _ ⟨hi, fun row hrow => ?_⟩); rw [q1] at hrow; subst hrow; cbv) | ((with_reducible refine hA.st [_, _, _, _, _, _, _] _ _ _ _ ⟨?_, fun ds hds => ?_⟩); rotate_left; (have hds : ds = [.int K, .int T, .int M, .e (.sl xe), .e (.sl ye), .int L, .int R] := hds); subst hds; cbv) | ((with_reducible first | refine callK_f hA hP h322 ?_ ?_ ?_ | refine callK_f hA hP h251 ?_ ?_ ?_ | refine callK_f hA hP h252 ?_ ?_ ?_ | refine callK_f hA hP h253 ?_ ?_ ?_ | refine callK_f hA hP ihL ?_ ?_ ?_ | refine callK_f hA hP ihR ?_ ?_ ?_); exact rfl; exact rfl; cbv) | ((with_reducible refine hA.invk hm1 hd1 ?_); cbv) | ((with_reducible show A.call _ _ _ _ _ fn1 _ _ _); refine callK_eq hA hP hfr1 rfl ?_ (Wks.refl _) (fun _ _ => hp1); cbv) | ((with_reducible first | refine callK_f hA hP h323 ?_ ?_ ?_); exact rfl; exact rfl; cbv) | ((with_reducible refine hA.invk hm3 hd3 ?_); cbv) | ((with_reducible show A.call _ _ _ _ _ fn3 _ _ _); refine callK_eq hA hP hfr3 rfl ?_ (Wks.refl _) (fun _ _ => hp3); cbv) | ((with_reducible first | refine hA.fin_pl _ _ _ ?_ | refine hA.off _ _ _ _ fun b hb => ?_ | refine hA.plus _ _ _ fun b hb => ?_ | refine hA.gb0 true _ ?_ | refine hA.gb0 false _ ?_ | refine hA.gb _ _ fun vb hvb => ?_); cbv) | ((with_reducible first | refine hA.st _ _ _ _ _ ⟨?_, fun ds hds => ?_⟩ | refine hA.sapp _ _ _ ⟨?_, fun sl hsl => ?_⟩); rotate_left; cbv) | (simp only [hA.lits]; cbv)
                  all_goals try simp only [hA.ar, inR, n_cast, Int.ofNat_eq_natCast, Option.getD_some, Option.getD_none] at *
                  all_goals first | omega | rfl | trivial | (rw [hr2]; done) | (simp; done) | exact gg1 _ | exact gg2 _ | exact gg3 _ | (trace_state; fail)
                · have vw : A.lt 200 ew = false := by rw [hA.lt]; exact decide_eq_false h200
                  have hr2 : res = .ia T3 c3 := by rw [hres, if_neg h200, optE, b1]
                  clear hres hsL hsR ho
                  cbv
                  repeat' first | with_reducible rfl | (simp only [hv2, ← hew, vw]; cbv) | with_reducible refine And.intro ?_ ?_ | ((with_reducible intro hcc); first | (cases hcc; done) | skip) | ((with_reducible first | show goC _ _ _ _ _ _ _ _ | show goOps _ _ _ _ _ | show goD _ _ _ _ _ _); cbv) | ((with_reducible show okWr _ _ = _); rfl) | ((with_reducible refine hA.row x i _ ⟨hi, fun row hrow => ?_⟩); rw [q1] at hrow; subst hrow; cbv) | ((with_reducible refine hA.st [_, _, _, _, _, _, _] _ _ _ _ ⟨?_, fun ds hds => ?_⟩); rotate_left; (have hds : ds = [.int K, .int T, .int M, .e (.sl xe), .e (.sl ye), .int L, .int R] := hds); subst hds; cbv) | ((with_reducible first | refine callK_f hA hP h322 ?_ ?_ ?_ | refine callK_f hA hP h251 ?_ ?_ ?_ | refine callK_f hA hP h252 ?_ ?_ ?_ | refine callK_f hA hP h253 ?_ ?_ ?_ | refine callK_f hA hP ihL ?_ ?_ ?_ | refine callK_f hA hP ihR ?_ ?_ ?_); exact rfl; exact rfl; cbv) | ((with_reducible refine hA.invk hm1 hd1 ?_); cbv) | ((with_reducible show A.call _ _ _ _ _ fn1 _ _ _); refine callK_eq hA hP hfr1 rfl ?_ (Wks.refl _) (fun _ _ => hp1); cbv) | ((with_reducible first | refine callK_f hA hP h323 ?_ ?_ ?_); exact rfl; exact rfl; cbv) | ((with_reducible refine hA.invk hm3 hd3 ?_); cbv) | ((with_reducible show A.call _ _ _ _ _ fn3 _ _ _); refine callK_eq hA hP hfr3 rfl ?_ (Wks.refl _) (fun _ _ => hp3); cbv) | ((with_reducible first | refine hA.fin_pl _ _ _ ?_ | refine hA.off _ _ _ _ fun b hb => ?_ | refine hA.plus _ _ _ fun b hb => ?_ | refine hA.gb0 true _ ?_ | refine hA.gb0 false _ ?_ | refine hA.gb _ _ fun vb hvb => ?_); cbv) | ((with_reducible first | refine hA.st _ _ _ _ _ ⟨?_, fun ds hds => ?_⟩ | refine hA.sapp _ _ _ ⟨?_, fun sl hsl => ?_⟩); rotate_left; cbv) | (simp only [hA.lits]; cbv)
                  all_goals try simp only [hA.ar, inR, n_cast, Int.ofNat_eq_natCast, Option.getD_some, Option.getD_none] at *
                  all_goals first | omega | rfl | trivial | (rw [hr2]; done) | (simp; done) | exact gg1 _ | exact gg2 _ | exact gg3 _ | (trace_state; fail)
end Go.Proofs.Ytfplalbognalkaa.Ab
/- Buffers of numbers. -/
namespace Go.Proofs.Ytfplalbognalkaa.Ab
open Go
def dsI (c : List Int) : List D := c.map fun k => .int k
theorem dsI_len (c : List Int) : (dsI c).length = c.length := by simp [dsI]
theorem dsI_ren (t : RF) (c : List Int) : rens t (dsI c) = dsI c := by
  induction c with
  | nil => rfl
  | cons r c ih => show D.int r :: rens t (dsI c) = _; rw [ih]; rfl
theorem dsI_lt (m : Nat) (c : List Int) : lts m (dsI c) = true := by
  induction c with
  | nil => rfl
  | cons r c ih => show (true && lts m (dsI c)) = true; rw [ih]; rfl
theorem dsI_get {c : List Int} {ds : List D} {off : Nat} {d : D} {v : Int} (hd : ds = dsI c) (ho : c[off]? = some v) (h : d = ds.getD off default) : d = .int v := by
  subst hd
  rw [h]
  simp [dsI, List.getD, ho]
theorem dsI_set {c : List Int} {ds ds' : List D} {off : Nat} {r : Int} (hd : ds = dsI c) (ho : off < c.length) (h : ds' = ds.take off ++ [D.int r] ++ ds.drop (off + 1)) : ds' = dsI (c.set off r) := by
  subst hd
  rw [h, dsI, dsI, List.map_set, List.set_eq_take_append_cons_drop, if_pos (by simpa using ho)]
  simp
theorem dsI_flat (c : List Int) : dsI c = (c.map ir).flatten.map D.e := by
  induction c with
  | nil => rfl
  | cons a c ih => show D.int a :: dsI c = _; rw [ih]; rfl
theorem rep_dsI (n : Nat) : (List.replicate n [D.int 0]).flatten = dsI (List.replicate n 0) := by
  induction n with
  | zero => rfl
  | succ n ih => rw [List.replicate_succ, List.flatten_cons, ih]; rfl
end Go.Proofs.Ytfplalbognalkaa.Ab
/- Several results, each taken for less. -/
namespace Go.Proofs.Ytfplalbognalkaa.Ab
open Go
theorem fin_tup {l : List O} {ds' ds : List D} (h : ds'.map D.pl = ds) (hf : (D.tup ds).free = true) : FinW l (.tup ds') (.tup ds) := by
  intro w G v hi hr
  refine ⟨G, ?_, inv_nil hi, fun w0 G0 e => ?_⟩
  · have : Rv w G (hpF l) v (.tup ds) := by
      subst h
      cases hr with
      | tup hl hr =>
        refine .tup (by rw [List.length_map]; exact hl) fun j c d hc hd => ?_
        rw [List.getElem?_map] at hd
        cases hq : ds'[j]? with
        | none => rw [hq] at hd; simp at hd
        | some d0 =>
          rw [hq] at hd
          cases hd
          exact (hr j c d0 hc hq).pl
    exact this.free hf rfl
  · rw [hpF_nil] at e ⊢
    exact ⟨e.os, e.tape, e.output, e.size, e.pub, fun i ds h => by simp at h, fun i n k h => by simp at h, e.others, fun i h => by simp [O.has] at h, e.pubnew, fun i b k ds h => by simp at h, fun i h => by simp at h, fun i l h => by simp at h⟩
theorem Ar.Ok.fin_tup {A : Ar} (h : A.Ok) (l : List O) (ds' ds : List D) (e : ds'.map D.pl = ds) : A.fin l (.tup ds') (.tup ds) := h.fin _ _ _ fun hf => Ab.fin_tup e hf
end Go.Proofs.Ytfplalbognalkaa.Ab
/- Plans: where stretches begin, by the program. -/
namespace Go.Proofs.Ytfplalbognalkaa.Ab
open Go
theorem fin_tup2 {l : List O} {d' d : D} {x : Value} (h : FinW l d' d) : FinW l (.tup [d', .e (.v x)]) (.tup [d, .e (.v x)]) := by
  intro w G v hi hr
  cases hr with
  | tup hl hr =>
    rename_i cs
    have h2 : cs.size = 2 := hl
    have r0 := hr 0 cs[0] d' (by simp [h2]) rfl
    have r1 := hr 1 cs[1] _ (by simp [h2]) rfl
    obtain ⟨G', a, b, c⟩ := h w G cs[0] hi r0
    refine ⟨G', .tup hl fun j c d hc hd => ?_, b, c⟩
    match j with
    | 0 => simp [h2] at hc; simp at hd; subst hc; subst hd; exact a
    | 1 =>
      simp [h2] at hc; simp at hd; subst hc; subst hd
      obtain ⟨e1, e2⟩ := rv_v r1
      rw [e1]; exact .e (.v e2)
    | j + 2 => simp at hd
theorem Ar.Ok.fin_tupbs {A : Ar} (h : A.Ok) {l : List O} {i n k : Nat} {es : List (List E)} {x : Value} (hb : hpF l i = .box (es.flatten.map .e)) (hn : es.length = n) (hk : ∀ e ∈ es, e.length = k) : A.fin l (.tup [.bs i 0 n k, .e (.v x)]) (.tup [.e (.sl es), .e (.v x)]) :=
  h.fin _ _ _ fun _ => Ab.fin_tup2 (Ab.fin_bs hb hn hk)
/-- A node's stretch, over those of the nodes ahead. -/
def frS (d : Pd) (f : Int → Int) (i : Int) : Int :=
  if ¬ (1 ≤ d.K ∧ d.K ≤ 10) then -1 else
  if hasR d.K then (if 1 ≤ i ∧ d.R = i - 1 then (if hasL d.K then (if 1 ≤ f (i - 1) ∧ d.L = f (i - 1) - 1 then f (f (i - 1) - 1) else -1) else if d.L = 0 then f (i - 1) else -1) else -1)
  else if d.R = 0 then (if hasL d.K then (if 1 ≤ i ∧ d.L = i - 1 then f (i - 1) else -1) else if d.L = 0 then i else -1) else -1
theorem fr_step (d : Pd) (f : Int → Int) (i : Int) (hf : ∀ j, 0 ≤ j → j < i → 0 ≤ f j ∧ f j ≤ j) : (if formP d = true then chain f (kidsP d) i else -1) = frS d f i := by
  obtain ⟨K, T, M, Ex, Exs, L, R⟩ := d
  unfold frS formP kidsP
  simp only
  by_cases hK : 1 ≤ K ∧ K ≤ 10
  case neg => rw [if_pos hK, decide_eq_false hK]; simp
  rw [decide_eq_true hK, Bool.true_and, if_neg (show ¬ ¬ (1 ≤ K ∧ K ≤ 10) from fun h => h hK)]
  by_cases h : 1 ≤ i
  · have h1 := hf (i - 1) (by omega) (by omega)
    obtain ⟨a, ha⟩ : ∃ a, a = f (i - 1) := ⟨_, rfl⟩
    rw [← ha] at h1 ⊢
    have h2 : 1 ≤ a → 0 ≤ f (a - 1) := fun q => (hf (a - 1) (by omega) (by omega)).1
    obtain ⟨b, hb⟩ : ∃ b, b = f (a - 1) := ⟨_, rfl⟩
    rw [← hb] at h2 ⊢
    cases hasR K <;> cases hasL K
    all_goals
      simp only [Bool.false_or, Bool.true_or, Bool.true_and, Bool.and_true, Bool.false_eq_true, if_false, if_true, List.nil_append, List.append_nil, List.singleton_append, chain, ← ha, ← hb, decide_eq_true_eq, Bool.and_eq_true]
      clear ha hb hf hK
      grind
  · cases hasR K <;> cases hasL K
    all_goals
      simp only [Bool.false_or, Bool.true_or, Bool.true_and, Bool.and_true, Bool.false_eq_true, if_false, if_true, List.nil_append, List.append_nil, List.singleton_append, chain, decide_eq_true_eq, Bool.and_eq_true]
      clear hf hK
      grind
theorem kid_side {p a a' : Int} {n : Nat} {c : List Int} {ds : List D} (hd : ds = dsI c) (b : Bool) : Side (fun t => [.int p, .ref (t 0) 0, .ref (t 1) 0]) (fun t => [.box [.int a], .box [.bs (t 2) 0 n 1], .box ds]) (fun _ => .bool b) (fun t => [.box [.int a'], .box [.bs (t 2) 0 n 1], .box ds]) := by
  subst hd
  exact ⟨fun t => rfl, rfl, fun t => by simp only [List.map_cons, List.map_nil, O.ren, dsI_ren]; rfl, by
    intro o ho
    simp only [List.mem_cons, List.not_mem_nil, or_false] at ho
    rcases ho with rfl | rfl | rfl
    · rfl
    · rfl
    · simp only [O.lt, dsI_lt], fun t => rfl, fun t => by simp only [List.map_cons, List.map_nil, O.ren, dsI_ren]; rfl, by simp⟩
theorem kid_fin {A : Ar} (hA : A.Ok) {a a' : Int} {n : Nat} {c : List Int} {ds : List D} (hd : ds = dsI c) {l' : List O} {b : Bool} {d' : D} (h0 : hpF l' 0 = .box [.int a']) (h1 : hpF l' 1 = .box [.bs 2 0 n 1]) (h2 : hpF l' 2 = .box ds) (hb : .bool b = d') : A.finv [.box [.int a], .box [.bs 2 0 n 1], .box ds] l' d' [.box [.int a'], .box [.bs 2 0 n 1], .box ds] (.bool b) := by
  subst hd
  exact hA.finv _ _ _ _ _ (FinV.ren [0, 1, 2] (fun t => [.box [.int a'], .box [.bs (t 2) 0 n 1], .box (dsI c)]) (fun _ => .bool b) rfl (.inl hb) ⟨h0, h1, h2, trivial⟩ (fun t => rfl) rfl (fun t => by simp only [List.map_cons, List.map_nil, O.ren, dsI_ren]; rfl) (by
    intro o ho
    simp only [List.mem_cons, List.not_mem_nil, or_false] at ho
    rcases ho with rfl | rfl | rfl
    · rfl
    · rfl
    · simp only [O.lt, dsI_lt]))
set_option maxRecDepth 100000 in
theorem ok187 (p a a2 v : Int) (n : Nat) (c : List Int) (ds : List D) (hd : ds = dsI c) (hn : n = c.length) (hn2 : n ≤ 2000) (ha : -1 ≤ a ∧ a ≤ n) (ok : Bool) (hok : ok = decide (1 ≤ a ∧ p = a - 1)) (hv : ok = true → c[p.toNat]? = some v) (ha2 : a2 = if ok then v else a) :
    Proc Try.prog 187 (fun t => [.int p, .ref (t 0) 0, .ref (t 1) 0]) (fun t => [.box [.int a], .box [.bs (t 2) 0 n 1], .box ds]) (fun _ => .bool ok) (fun t => [.box [.int a2], .box [.bs (t 2) 0 n 1], .box ds]) := by
  refine procOf mixed p187 (kid_side hd ok) fun A P hA hP => ?_
  obtain ⟨z, hz⟩ : ∃ z, z = A.sub a 1 := ⟨_, rfl⟩
  have hz' : z = a - 1 := by rw [hz, hA.sub]
  rw [← hz'] at hok
  by_cases h1 : a < 1
  · have e1 : A.lt a 1 = true := by rw [hA.lt]; exact decide_eq_true h1
    have hf : ok = false := by rw [hok]; simp; omega
    subst hf
    rw [if_neg (by simp)] at ha2
    subst ha2
    cbv
    repeat' first | with_reducible rfl | (simp only [e1, ← hz]; cbv) | with_reducible refine And.intro ?_ ?_ | ((with_reducible intro hcc); first | (cases hcc; done) | skip) | ((with_reducible first | show goC _ _ _ _ _ _ _ _ | show goOps _ _ _ _ _ | show goD _ _ _ _ _ _); cbv) | ((with_reducible show okWr _ _ = _); rfl) | ((with_reducible first | refine hA.fin_pl _ _ _ ?_ | refine hA.off _ _ _ _ fun b hb => ?_ | refine hA.gb0 true _ ?_ | refine hA.gb0 false _ ?_ | refine hA.gb _ _ fun vb hvb => ?_); cbv) | ((with_reducible first | refine hA.st _ _ _ _ _ ⟨?_, fun ds hds => ?_⟩); rotate_left; cbv) | (simp only [hA.lits]; cbv)
    all_goals try simp only [hA.ar, inR, n_cast, Int.ofNat_eq_natCast, Option.getD_some, Option.getD_none] at *
    all_goals first | omega | exact kid_fin hA hd rfl rfl rfl rfl | (trace_state; fail)
  · have e1 : A.lt a 1 = false := by rw [hA.lt]; exact decide_eq_false h1
    by_cases h2 : p = z
    · have e2 : A.eq p z = true := by rw [hA.eq]; exact decide_eq_true h2
      have ht : ok = true := by rw [hok]; simp; omega
      subst ht
      rw [if_pos rfl] at ha2
      subst ha2
      have hg := hv rfl
      have hdl : ds.length = n := by rw [hd, dsI_len, hn]
      cbv
      repeat' first | with_reducible rfl | (simp only [e1, ← hz, e2]; cbv) | with_reducible refine And.intro ?_ ?_ | ((with_reducible intro hcc); first | (cases hcc; done) | skip) | ((with_reducible first | show goC _ _ _ _ _ _ _ _ | show goOps _ _ _ _ _ | show goD _ _ _ _ _ _); cbv) | ((with_reducible show okWr _ _ = _); rfl) | ((with_reducible refine hA.ld1 _ _ _ ⟨?_, fun c hc => ?_⟩); rotate_left; (have e9 := dsI_get (v := a2) hd (by rw [← hg]; congr 1; omega) hc); subst e9; cbv) | ((with_reducible first | refine hA.fin_pl _ _ _ ?_ | refine hA.off _ _ _ _ fun b hb => ?_ | refine hA.gb0 true _ ?_ | refine hA.gb0 false _ ?_ | refine hA.gb _ _ fun vb hvb => ?_); cbv) | ((with_reducible first | refine hA.st _ _ _ _ _ ⟨?_, fun ds hds => ?_⟩); rotate_left; cbv) | (simp only [hA.lits]; cbv)
      all_goals try simp only [hA.ar, inR, n_cast, Int.ofNat_eq_natCast, Option.getD_some, Option.getD_none] at *
      all_goals first | omega | exact kid_fin hA hd rfl rfl rfl rfl | (trace_state; fail)
    · have e2 : A.eq p z = false := by rw [hA.eq]; exact decide_eq_false h2
      have hf : ok = false := by rw [hok]; simp; omega
      subst hf
      rw [if_neg (by simp)] at ha2
      subst ha2
      cbv
      repeat' first | with_reducible rfl | (simp only [e1, ← hz, e2]; cbv) | with_reducible refine And.intro ?_ ?_ | ((with_reducible intro hcc); first | (cases hcc; done) | skip) | ((with_reducible first | show goC _ _ _ _ _ _ _ _ | show goOps _ _ _ _ _ | show goD _ _ _ _ _ _); cbv) | ((with_reducible show okWr _ _ = _); rfl) | ((with_reducible first | refine hA.fin_pl _ _ _ ?_ | refine hA.off _ _ _ _ fun b hb => ?_ | refine hA.gb0 true _ ?_ | refine hA.gb0 false _ ?_ | refine hA.gb _ _ fun vb hvb => ?_); cbv) | ((with_reducible first | refine hA.st _ _ _ _ _ ⟨?_, fun ds hds => ?_⟩); rotate_left; cbv) | (simp only [hA.lits]; cbv)
      all_goals try simp only [hA.ar, inR, n_cast, Int.ofNat_eq_natCast, Option.getD_some, Option.getD_none] at *
      all_goals first | omega | exact kid_fin hA hd rfl rfl rfl rfl | (trace_state; fail)
theorem fok321 : fOK Try.prog 187 := ⟨_, Try.func187, by decide, rfl⟩
def allF (ns : List Pd) : Prop := (1 ≤ ns.length ∧ ns.length ≤ 2000) ∧ ∀ i, i < ns.length → 0 ≤ fr ns i
theorem ord_allF {ns : List Pd} : ordOk ns = true ↔ allF ns ∧ fr ns (ns.length - 1) = 0 := by
  constructor
  · intro h
    have h2 := ord_all h
    simp only [ordOk, Bool.and_eq_true, decide_eq_true_eq] at h
    exact ⟨⟨h.1, h2⟩, h.2⟩
  · intro ⟨h1, h2⟩
    simp only [ordOk, Bool.and_eq_true, decide_eq_true_eq]
    exact ⟨h1.1, h2⟩
/-- The things of the loop. -/
theorem sb_side {env : RF → List (Nat × D)} {x : List (List E)} {c : List Int} {ds : List D} {n : Nat} (h1 : ds = dsI c) (he : ∀ t, env t = renEnv t (env id)) (hl : ltEnv 3 (env id) = true) : SideW env (fun t => [.box [.e (.sl x)], .box ds, .box [.bs (t 1) 0 n 1]]) := by
  subst h1
  exact ⟨he, hl, fun t => by simp only [List.map_cons, List.map_nil, O.ren, dsI_ren]; rfl, by
    intro o ho
    simp only [List.mem_cons, List.not_mem_nil, or_false] at ho
    rcases ho with rfl | rfl | rfl
    · rfl
    · simp only [O.lt, dsI_lt]
    · rfl⟩
set_option maxRecDepth 100000 in
set_option maxHeartbeats 8000000 in
theorem ok146 (ns : List Pd) (x : List (List E)) (hx : x = ns.map pdr) (hxl : x.length ≤ 1048576) (aok b : Bool) (haok : aok = true ↔ allF ns) (hord : b = ordOk ns) (xs : List (List E)) (hxs : xs = if aok then ((List.range ns.length).map (fr ns)).map ir else []) :
    Plain Try.prog 146 [.agg [.e (.sl x)]] (.tup [.e (.sl xs), .bool b]) := okOf mixed p146 fun A P hA hP => (by
  have hxn : x.length = ns.length := by rw [hx]; simp
  obtain ⟨ze, hze⟩ : ∃ z : Int, z = x.length := ⟨_, rfl⟩
  obtain ⟨n, hn⟩ : ∃ n : Nat, n = x.length := ⟨_, rfl⟩
  have hf' : ∃ func, P.funcs[187]? = some func ∧ ¬func.name = "runtime.NumGoroutine" ∧ func.body.isNone = false := hP ▸ fok321
  have hbad : ¬ allF ns → xs = [] ∧ b = false := fun h => by
    have h1 : aok = false := by cases aok <;> simp_all
    refine ⟨by rw [hxs, h1]; rfl, ?_⟩
    rw [hord]
    cases e : ordOk ns
    · rfl
    · exact absurd (ord_allF.1 e).1 h
  by_cases h1 : ze < 1
  · have e1 : A.lt ze 1 = true := by rw [hA.lt]; exact decide_eq_true h1
    obtain ⟨rfl, rfl⟩ := hbad fun h => by have := h.1; omega
    cbv
    repeat' first | with_reducible rfl | (simp only [e1]; cbv) | with_reducible refine And.intro ?_ ?_ | ((with_reducible intro hcc); first | (cases hcc; done) | skip) | ((with_reducible first | show goC _ _ _ _ _ _ _ _ | show goOps _ _ _ _ _ | show goD _ _ _ _ _ _); cbv) | ((with_reducible show okWr _ _ = _); rfl) | (with_reducible refine hA.fin_tup _ _ _ ?_) | ((with_reducible refine hA.len x _ _ _ _ fun z hz hb => ?_); (have e6 := hze.trans hz.symm); subst e6; cbv) | ((with_reducible first | refine hA.fin_pl _ _ _ ?_ | refine hA.len _ _ _ _ _ fun z hz hb => ?_ | refine hA.off _ _ _ _ fun b hb => ?_ | refine hA.plus _ _ _ fun b hb => ?_ | refine hA.rep _ _ _ fun ds m hds hm => ?_ | refine hA.alt _ _ (Or.inl ?_) | refine hA.gb0 true _ ?_ | refine hA.gb0 false _ ?_ | refine hA.gb _ _ fun vb hvb => ?_); cbv) | ((with_reducible first | refine hA.st _ _ _ _ _ ⟨?_, fun ds hds => ?_⟩ | refine hA.sapp _ _ _ ⟨?_, fun sl hsl => ?_⟩); rotate_left; cbv) | (simp only [hA.lits]; cbv)
    all_goals try simp only [hA.ar, inR, n_cast, Int.ofNat_eq_natCast, Option.getD_some, Option.getD_none] at *
    all_goals first | omega | rfl | trivial | (trace_state; fail)
  have e1 : A.lt ze 1 = false := by rw [hA.lt]; exact decide_eq_false h1
  by_cases h2 : 2000 < ze
  · have e2 : A.lt 2000 ze = true := by rw [hA.lt]; exact decide_eq_true h2
    obtain ⟨rfl, rfl⟩ := hbad fun h => by have := h.1; omega
    cbv
    repeat' first | with_reducible rfl | (simp only [e1, e2]; cbv) | with_reducible refine And.intro ?_ ?_ | ((with_reducible intro hcc); first | (cases hcc; done) | skip) | ((with_reducible first | show goC _ _ _ _ _ _ _ _ | show goOps _ _ _ _ _ | show goD _ _ _ _ _ _); cbv) | ((with_reducible show okWr _ _ = _); rfl) | (with_reducible refine hA.fin_tup _ _ _ ?_) | ((with_reducible refine hA.len x _ _ _ _ fun z hz hb => ?_); (have e6 := hze.trans hz.symm); subst e6; cbv) | ((with_reducible first | refine hA.fin_pl _ _ _ ?_ | refine hA.len _ _ _ _ _ fun z hz hb => ?_ | refine hA.off _ _ _ _ fun b hb => ?_ | refine hA.plus _ _ _ fun b hb => ?_ | refine hA.rep _ _ _ fun ds m hds hm => ?_ | refine hA.alt _ _ (Or.inl ?_) | refine hA.gb0 true _ ?_ | refine hA.gb0 false _ ?_ | refine hA.gb _ _ fun vb hvb => ?_); cbv) | ((with_reducible first | refine hA.st _ _ _ _ _ ⟨?_, fun ds hds => ?_⟩ | refine hA.sapp _ _ _ ⟨?_, fun sl hsl => ?_⟩); rotate_left; cbv) | (simp only [hA.lits]; cbv)
    all_goals try simp only [hA.ar, inR, n_cast, Int.ofNat_eq_natCast, Option.getD_some, Option.getD_none] at *
    all_goals first | omega | rfl | trivial | (trace_state; fail)
  have e2 : A.lt 2000 ze = false := by rw [hA.lt]; exact decide_eq_false h2
  cbv
  repeat' first | with_reducible rfl | (simp only [e1, e2]; cbv) | with_reducible refine And.intro ?_ ?_ | ((with_reducible intro hcc); first | (cases hcc; done) | skip) | ((with_reducible first | show goC _ _ _ _ _ _ _ _ | show goOps _ _ _ _ _ | show goD _ _ _ _ _ _); cbv) | ((with_reducible show okWr _ _ = _); rfl) | ((with_reducible refine hA.len x _ _ _ _ fun z hz hb => ?_); (have e6 := hze.trans hz.symm); subst e6; cbv) | ((with_reducible refine hA.rep _ _ _ fun ds m hds hm => ?_); (have e7 : n = m := (by rw [hn, hm, hze]; rfl)); subst e7; cbv) | ((with_reducible first | refine hA.fin_pl _ _ _ ?_ | refine hA.len _ _ _ _ _ fun z hz hb => ?_ | refine hA.off _ _ _ _ fun b hb => ?_ | refine hA.plus _ _ _ fun b hb => ?_ | refine hA.rep _ _ _ fun ds m hds hm => ?_ | refine hA.alt _ _ (Or.inl ?_) | refine hA.gb0 true _ ?_ | refine hA.gb0 false _ ?_ | refine hA.gb _ _ fun vb hvb => ?_); cbv) | ((with_reducible first | refine hA.st _ _ _ _ _ ⟨?_, fun ds hds => ?_⟩ | refine hA.sapp _ _ _ ⟨?_, fun sl hsl => ?_⟩); rotate_left; cbv) | (simp only [hA.lits]; cbv)
  all_goals try simp only [hA.ar, inR, n_cast, Int.ofNat_eq_natCast, Option.getD_some, Option.getD_none] at *
  all_goals try omega
  rename_i ds0 hds0 _
  have e1 : A.lt ze 1 = false := by rw [hA.lt]; exact decide_eq_false h1
  refine hA.loopI (fun mm s => ∃ (i : Int) (c1 : List Int) (ds1 : List D), 0 ≤ i ∧ mm + i = x.length ∧ c1.length = n ∧ (∀ j : Nat, (j : Int) < i → 0 ≤ fr ns j ∧ c1[j]? = some (fr ns j)) ∧ ds1 = dsI c1 ∧
      s = ⟨[(26, .int i), (25, .int ze), (24, .e (.sl x)), (4, .ref 2 0), (1, .ref 0 0), (2, .zs), (3, .bool false)], [.box [.e (.sl x)], .box ds1, .box [.bs 1 0 n 1]]⟩) x.length _
    (Weak.keep (env' := [(26, .int 0), (25, .int ze), (24, .e (.sl x)), (4, .ref 2 0), (1, .ref 0 0), (2, .zs), (3, .bool false)]) ⟨rfl, rfl, rfl, rfl, rfl, rfl, rfl, trivial⟩)
    ⟨0, List.replicate n 0, _, by omega, by omega, by simp, (fun j h => by omega), (by rw [← rep_dsI n, show n = ze.toNat by omega]; assumption), rfl⟩ ?_
  rintro m s K' ⟨i, c1, ds1, i0, i1, i2, i4, hd1, rfl⟩ hK
  have hl1 : ds1.length = n := by rw [hd1, dsI_len, i2]
  by_cases hi : (0 : Int) ≤ i ∧ i < x.length
  case neg =>
    have e8 : A.lt i ze = false := by rw [hA.lt]; exact decide_eq_false (by omega)
    have hall : allF ns := ⟨by omega, fun j hj => (i4 j (by omega)).1⟩
    have hc1 : c1 = (List.range ns.length).map (fr ns) := by
      refine List.ext_getElem? fun j => ?_
      by_cases hj : j < ns.length
      · rw [(i4 j (by omega)).2, List.getElem?_map, List.getElem?_range hj]; rfl
      · rw [List.getElem?_eq_none (by omega), List.getElem?_eq_none (by simp; omega)]
    have hxs2 : xs = c1.map ir := by rw [hxs, haok.2 hall, hc1]; rfl
    obtain ⟨zl, hzl⟩ : ∃ z, z = A.sub ze 1 := ⟨_, rfl⟩
    have hzl2 : zl = ze - 1 := by rw [hzl, hA.sub]
    obtain ⟨v, hv⟩ : ∃ v, v = fr ns (ns.length - 1) := ⟨_, rfl⟩
    have hg : c1[zl.toNat]? = some v := by rw [show zl.toNat = ns.length - 1 by omega, (i4 _ (by omega)).2, hv]
    have hb2 : b = decide (v = 0) := by
      rw [hord, hv]
      cases e : ordOk ns
      · rw [eq_comm, decide_eq_false_iff_not]; intro h; rw [ord_allF.2 ⟨hall, h⟩] at e; cases e
      · rw [eq_comm, decide_eq_true_eq]; exact (ord_allF.1 e).2
    have vb : A.eq v 0 = b := by rw [hA.eq, hb2]
    have hds : ds1 = xs.flatten.map D.e := by rw [hd1, hxs2, dsI_flat]
    have hxk : ∀ e ∈ xs, e.length = 1 := by rw [hxs2]; intro e h; obtain ⟨q, _, rfl⟩ := List.mem_map.1 h; rfl
    have hnz : A.sub (n : Int) 1 = zl := by rw [hzl, show (n : Int) = ze by omega]
    have hnz2 : A.sub (Int.ofNat n) 1 = zl := hnz
    clear hK i4 hv hb2 hord hxs hbad haok
    cbv
    repeat' first | with_reducible rfl | (simp only [e8, hnz, hnz2, vb]; cbv) | with_reducible refine And.intro ?_ ?_ | ((with_reducible intro hcc); first | (cases hcc; done) | skip) | ((with_reducible first | show goC _ _ _ _ _ _ _ _ | show goOps _ _ _ _ _ | show goD _ _ _ _ _ _); cbv) | ((with_reducible show okWr _ _ = _); rfl) | ((with_reducible refine hA.fin_tupbs (es := xs) ?_ ?_ hxk)) | ((with_reducible refine hA.ld1 _ _ _ ⟨?_, fun c hc => ?_⟩); rotate_left; (have e9 := dsI_get hd1 (show _ = some v by rw [← hg]; congr 1; omega) hc); subst e9; cbv) | ((with_reducible first | refine hA.fin_pl _ _ _ ?_ | refine hA.len _ _ _ _ _ fun z hz hb => ?_ | refine hA.off _ _ _ _ fun b hb => ?_ | refine hA.plus _ _ _ fun b hb => ?_ | refine hA.rep _ _ _ fun ds m hds hm => ?_ | refine hA.alt _ _ (Or.inl ?_) | refine hA.gb0 true _ ?_ | refine hA.gb0 false _ ?_ | refine hA.gb _ _ fun vb hvb => ?_); cbv) | ((with_reducible first | refine hA.st _ _ _ _ _ ⟨?_, fun ds hds => ?_⟩ | refine hA.sapp _ _ _ ⟨?_, fun sl hsl => ?_⟩); rotate_left; cbv) | (simp only [hA.lits]; cbv)
    all_goals try simp only [hA.ar, inR, n_cast, Int.ofNat_eq_natCast, Option.getD_some, Option.getD_none] at *
    all_goals first
      | omega
      | (rw [hds]; rfl)
      | (rw [hxs2, List.length_map]; exact i2)
      | (rw [hxs2]; intro e h; obtain ⟨q, _, rfl⟩ := List.mem_map.1 h; rfl)
      | (trace_state; fail)
  case pos =>
    have e8 : A.lt i ze = true := by rw [hA.lt]; exact decide_eq_true (by omega)
    obtain ⟨K, T, M, Ex, Exs, L, R, xe, ye, q0, qm, hxe, hye, q1⟩ := pd_at hx hi
    obtain ⟨f, hf⟩ : ∃ f : Int → Int, f = fun j => fr ns j.toNat := ⟨_, rfl⟩
    have hfj : ∀ j, 0 ≤ j → j < i → (0 ≤ f j ∧ f j ≤ j) ∧ c1[j.toNat]? = some (f j) := fun j a b => by
      have := i4 j.toNat (by omega)
      have := fr_le ns j.toNat
      rw [hf]
      refine ⟨⟨?_, ?_⟩, ?_⟩ <;> simp only <;> first | omega | (exact (i4 j.toNat (by omega)).2)
    obtain ⟨s0, hs0⟩ : ∃ s, s = fr ns i.toNat := ⟨_, rfl⟩
    have hst : s0 = frS ⟨K, T, M, Ex, Exs, L, R⟩ f i := by
      rw [hs0, fr_eq, q0, ← hf, show ((i.toNat : Nat) : Int) = i by omega]
      exact fr_step _ f i fun j a b => (hfj j a b).1
    have hbad2 : s0 = -1 → xs = [] ∧ b = false := fun h => hbad fun q => by
      have := q.2 i.toNat (by omega)
      omega
    have hok : ∀ a : Int, s0 = a → 0 ≤ a → ∀ env ds' o3 o4, ds' = dsI (c1.set i.toNat a) → subL [(26, .int (i + 1)), (25, .int ze), (24, .e (.sl x)), (4, .ref 2 0), (1, .ref 0 0), (2, .zs), (3, .bool false)] env → K' ⟨env, [.box [.e (.sl x)], .box ds', .box [.bs 1 0 n 1], o3, o4]⟩ := fun a ha h0 env ds' o3 o4 hds hs => by
      refine hK _ (m - 1) _ (by omega) (Weak.ren (l0 := []) [0, 1, 2] (fun t => [(26, .int (i + 1)), (25, .int ze), (24, .e (.sl x)), (4, .ref (t 2) 0), (1, .ref (t 0) 0), (2, .zs), (3, .bool false)]) (fun t => [.box [.e (.sl x)], .box ds', .box [.bs (t 1) 0 n 1]]) rfl ?_ ⟨rfl, rfl, rfl, trivial⟩ (sb_side hds (fun t => rfl) rfl))
        ⟨i + 1, c1.set i.toNat a, ds', by omega, by omega, by simp [i2], fun j hj => ?_, hds, rfl⟩
      · obtain ⟨w1, w2, w3, w4, w5, w6, w7, _⟩ := hs
        exact ⟨.inl w1, .inl w2, .inl w3, .inl w4, .inl w5, .inl w6, .inl w7, trivial⟩
      · by_cases hji : (j : Int) < i
        · rw [List.getElem?_set_ne (show i.toNat ≠ j by omega)]; exact i4 j hji
        · have : j = i.toNat := by omega
          subst this
          exact ⟨by rw [← hs0, ha]; exact h0, by rw [List.getElem?_set_self (by omega), ← hs0, ha]⟩
    clear hK i4 hs0 hbad hord hxs haok q0
    have hset : ∀ {b : Nat} {ds : List D} {a : Int}, ds = ds1.take b ++ [.int a] ++ ds1.drop (b + 1) → b = 0 + i.toNat * 1 → ds = dsI (c1.set i.toNat a) := fun {b ds a} h1 h2 =>
      dsI_set hd1 (by omega) (by rw [h1, show b = i.toNat by omega])
    have h252 := ok91 K
    have h251 := ok90 K
    obtain ⟨bR, hbR⟩ : ∃ b, b = hasR K := ⟨_, rfl⟩
    obtain ⟨bL, hbL⟩ : ∃ b, b = hasL K := ⟨_, rfl⟩
    rw [← hbR] at h252
    rw [← hbL] at h251
    simp only [frS, ← hbR, ← hbL] at hst
    by_cases hK1 : K < 1
    · have k1 : A.lt K 1 = true := by rw [hA.lt]; exact decide_eq_true hK1
      obtain ⟨rfl, rfl⟩ := hbad2 (by rw [hst, if_pos (by omega)])
      clear hok hst hbad2 hfj
      cbv
      repeat' first | with_reducible rfl | (simp only [e8, k1]; cbv) | with_reducible refine And.intro ?_ ?_ | ((with_reducible intro hcc); first | (cases hcc; done) | skip) | ((with_reducible first | show goC _ _ _ _ _ _ _ _ | show goOps _ _ _ _ _ | show goD _ _ _ _ _ _); cbv) | ((with_reducible show okWr _ _ = _); rfl) | (with_reducible refine hA.fin_tup _ _ _ ?_) | ((with_reducible refine hA.row x i _ ⟨hi, fun row hrow => ?_⟩); rw [q1] at hrow; subst hrow; cbv) | ((with_reducible refine hA.st [_, _, _, _, _, _, _] _ _ _ _ ⟨?_, fun ds hds => ?_⟩); rotate_left; (have hds : ds = [.int K, .int T, .int M, .e (.sl xe), .e (.sl ye), .int L, .int R] := hds); subst hds; cbv) | ((with_reducible first | refine hA.fin_pl _ _ _ ?_ | refine hA.len _ _ _ _ _ fun z hz hb => ?_ | refine hA.off _ _ _ _ fun b hb => ?_ | refine hA.plus _ _ _ fun b hb => ?_ | refine hA.rep _ _ _ fun ds m hds hm => ?_ | refine hA.alt _ _ (Or.inl ?_) | refine hA.gb0 true _ ?_ | refine hA.gb0 false _ ?_ | refine hA.gb _ _ fun vb hvb => ?_); cbv) | ((with_reducible first | refine hA.st _ _ _ _ _ ⟨?_, fun ds hds => ?_⟩ | refine hA.sapp _ _ _ ⟨?_, fun sl hsl => ?_⟩); rotate_left; cbv) | (simp only [hA.lits]; cbv)
      all_goals try simp only [hA.ar, inR, n_cast, Int.ofNat_eq_natCast, Option.getD_some, Option.getD_none] at *
      all_goals first | omega | rfl | trivial | (simp; done) | (trace_state; fail)
    have k1 : A.lt K 1 = false := by rw [hA.lt]; exact decide_eq_false hK1
    by_cases hK2 : 10 < K
    · have k2 : A.lt 10 K = true := by rw [hA.lt]; exact decide_eq_true hK2
      obtain ⟨rfl, rfl⟩ := hbad2 (by rw [hst, if_pos (by omega)])
      clear hok hst hbad2 hfj
      cbv
      repeat' first | with_reducible rfl | (simp only [e8, k1, k2]; cbv) | with_reducible refine And.intro ?_ ?_ | ((with_reducible intro hcc); first | (cases hcc; done) | skip) | ((with_reducible first | show goC _ _ _ _ _ _ _ _ | show goOps _ _ _ _ _ | show goD _ _ _ _ _ _); cbv) | ((with_reducible show okWr _ _ = _); rfl) | (with_reducible refine hA.fin_tup _ _ _ ?_) | ((with_reducible refine hA.row x i _ ⟨hi, fun row hrow => ?_⟩); rw [q1] at hrow; subst hrow; cbv) | ((with_reducible refine hA.st [_, _, _, _, _, _, _] _ _ _ _ ⟨?_, fun ds hds => ?_⟩); rotate_left; (have hds : ds = [.int K, .int T, .int M, .e (.sl xe), .e (.sl ye), .int L, .int R] := hds); subst hds; cbv) | ((with_reducible first | refine hA.fin_pl _ _ _ ?_ | refine hA.len _ _ _ _ _ fun z hz hb => ?_ | refine hA.off _ _ _ _ fun b hb => ?_ | refine hA.plus _ _ _ fun b hb => ?_ | refine hA.rep _ _ _ fun ds m hds hm => ?_ | refine hA.alt _ _ (Or.inl ?_) | refine hA.gb0 true _ ?_ | refine hA.gb0 false _ ?_ | refine hA.gb _ _ fun vb hvb => ?_); cbv) | ((with_reducible first | refine hA.st _ _ _ _ _ ⟨?_, fun ds hds => ?_⟩ | refine hA.sapp _ _ _ ⟨?_, fun sl hsl => ?_⟩); rotate_left; cbv) | (simp only [hA.lits]; cbv)
      all_goals try simp only [hA.ar, inR, n_cast, Int.ofNat_eq_natCast, Option.getD_some, Option.getD_none] at *
      all_goals first | omega | rfl | trivial | (simp; done) | (trace_state; fail)
    have k2 : A.lt 10 K = false := by rw [hA.lt]; exact decide_eq_false hK2
    rw [if_neg (by omega)] at hst
    clear hbR hbL
    cases bR
    · rw [if_neg (by simp)] at hst
      by_cases hR0 : R = 0
      · have vr0 : A.eq R 0 = true := by rw [hA.eq]; exact decide_eq_true hR0
        rw [if_pos hR0] at hst
        cases bL
        · by_cases hL0 : L = 0
          · have vl0 : A.eq L 0 = true := by rw [hA.eq]; exact decide_eq_true hL0
            have hok2 := hok i (by rw [hst, if_neg (by simp), if_pos hL0]) (by omega)
            clear hok hst hbad2 hfj
            cbv
            repeat' first | with_reducible rfl | (simp only [e8, k1, k2, vr0, vl0]; cbv) | with_reducible refine And.intro ?_ ?_ | ((with_reducible intro hcc); first | (cases hcc; done) | skip) | ((with_reducible first | show goC _ _ _ _ _ _ _ _ | show goOps _ _ _ _ _ | show goD _ _ _ _ _ _); cbv) | ((with_reducible show okWr _ _ = _); rfl) | ((with_reducible first | refine callK_f hA hP h252 ?_ ?_ ?_ | refine callK_f hA hP h251 ?_ ?_ ?_); exact rfl; exact rfl; cbv) | ((with_reducible show A.call _ _ _ _ false _ _ _ _); refine callK_no hA (.bool false) ?_; cbv) | ((with_reducible refine hA.len x _ _ _ _ fun z hz hb => ?_); (have e6 := hze.trans hz.symm); subst e6; cbv) | ((with_reducible refine hA.row x i _ ⟨hi, fun row hrow => ?_⟩); rw [q1] at hrow; subst hrow; cbv) | ((with_reducible refine hA.st [_, _, _, _, _, _, _] _ _ _ _ ⟨?_, fun ds hds => ?_⟩); rotate_left; (have hds : ds = [.int K, .int T, .int M, .e (.sl xe), .e (.sl ye), .int L, .int R] := hds); subst hds; cbv) | ((with_reducible first | refine hA.fin_pl _ _ _ ?_ | refine hA.len _ _ _ _ _ fun z hz hb => ?_ | refine hA.off _ _ _ _ fun b hb => ?_ | refine hA.plus _ _ _ fun b hb => ?_ | refine hA.rep _ _ _ fun ds m hds hm => ?_ | refine hA.alt _ _ (Or.inl ?_) | refine hA.gb0 true _ ?_ | refine hA.gb0 false _ ?_ | refine hA.gb _ _ fun vb hvb => ?_); cbv) | ((with_reducible first | refine hA.st _ _ _ _ _ ⟨?_, fun ds hds => ?_⟩ | refine hA.sapp _ _ _ ⟨?_, fun sl hsl => ?_⟩); rotate_left; cbv) | (simp only [hA.lits]; cbv)
            all_goals try simp only [hA.ar, inR, n_cast, Int.ofNat_eq_natCast, Option.getD_some, Option.getD_none] at *
            all_goals first
              | omega
              | exact hf'
              | trivial
              | exact hok2 _ _ _ _ (hset hds hb) ⟨rfl, rfl, rfl, rfl, rfl, rfl, rfl, trivial⟩
              | (rw [hl1]; omega)
              | (simp; done)
              | (trace_state; fail)
          · have vl0 : A.eq L 0 = false := by rw [hA.eq]; exact decide_eq_false hL0
            obtain ⟨rfl, rfl⟩ := hbad2 (by rw [hst, if_neg (by simp), if_neg hL0])
            clear hok hst hbad2 hfj
            cbv
            repeat' first | with_reducible rfl | (simp only [e8, k1, k2, vr0, vl0]; cbv) | with_reducible refine And.intro ?_ ?_ | ((with_reducible intro hcc); first | (cases hcc; done) | skip) | ((with_reducible first | show goC _ _ _ _ _ _ _ _ | show goOps _ _ _ _ _ | show goD _ _ _ _ _ _); cbv) | ((with_reducible show okWr _ _ = _); rfl) | ((with_reducible first | refine callK_f hA hP h252 ?_ ?_ ?_ | refine callK_f hA hP h251 ?_ ?_ ?_); exact rfl; exact rfl; cbv) | (with_reducible refine hA.fin_tup _ _ _ ?_) | ((with_reducible show A.call _ _ _ _ false _ _ _ _); refine callK_no hA (.bool false) ?_; cbv) | ((with_reducible refine hA.len x _ _ _ _ fun z hz hb => ?_); (have e6 := hze.trans hz.symm); subst e6; cbv) | ((with_reducible refine hA.row x i _ ⟨hi, fun row hrow => ?_⟩); rw [q1] at hrow; subst hrow; cbv) | ((with_reducible refine hA.st [_, _, _, _, _, _, _] _ _ _ _ ⟨?_, fun ds hds => ?_⟩); rotate_left; (have hds : ds = [.int K, .int T, .int M, .e (.sl xe), .e (.sl ye), .int L, .int R] := hds); subst hds; cbv) | ((with_reducible first | refine hA.fin_pl _ _ _ ?_ | refine hA.len _ _ _ _ _ fun z hz hb => ?_ | refine hA.off _ _ _ _ fun b hb => ?_ | refine hA.plus _ _ _ fun b hb => ?_ | refine hA.rep _ _ _ fun ds m hds hm => ?_ | refine hA.alt _ _ (Or.inl ?_) | refine hA.gb0 true _ ?_ | refine hA.gb0 false _ ?_ | refine hA.gb _ _ fun vb hvb => ?_); cbv) | ((with_reducible first | refine hA.st _ _ _ _ _ ⟨?_, fun ds hds => ?_⟩ | refine hA.sapp _ _ _ ⟨?_, fun sl hsl => ?_⟩); rotate_left; cbv) | (simp only [hA.lits]; cbv)
            all_goals try simp only [hA.ar, inR, n_cast, Int.ofNat_eq_natCast, Option.getD_some, Option.getD_none] at *
            all_goals first | omega | exact hf' | rfl | trivial | (simp; done) | (trace_state; fail)
        · obtain ⟨okl, hokl⟩ : ∃ b, b = decide (1 ≤ i ∧ L = i - 1) := ⟨_, rfl⟩
          obtain ⟨al, hal⟩ : ∃ v, v = if okl then f (i - 1) else i := ⟨_, rfl⟩
          have hl := ok187 L i al (f (i - 1)) n c1 ds1 hd1 i2.symm (by omega) (by omega) okl hokl (fun h => by
            have h' : 1 ≤ i ∧ L = i - 1 := by rw [hokl] at h; exact of_decide_eq_true h
            rw [h'.2]; exact (hfj _ (by omega) (by omega)).2) hal
          have vL : okl = true ↔ (1 ≤ i ∧ L = i - 1) := by rw [hokl]; exact decide_eq_true_iff
          clear hokl
          cases okl
          · rw [if_neg (by simp)] at hal
            rw [hal] at hl
            obtain ⟨rfl, rfl⟩ := hbad2 (by rw [hst, if_pos rfl, if_neg (by rw [← vL]; simp)])
            clear hok hst hbad2 hfj
            cbv
            repeat' first | with_reducible rfl | (simp only [e8, k1, k2, vr0]; cbv) | with_reducible refine And.intro ?_ ?_ | ((with_reducible intro hcc); first | (cases hcc; done) | skip) | ((with_reducible first | show goC _ _ _ _ _ _ _ _ | show goOps _ _ _ _ _ | show goD _ _ _ _ _ _); cbv) | ((with_reducible show okWr _ _ = _); rfl) | ((with_reducible first | refine callK_f hA hP h252 ?_ ?_ ?_ | refine callK_f hA hP h251 ?_ ?_ ?_); exact rfl; exact rfl; cbv) | ((with_reducible show A.call _ _ _ _ _ 187 _ _ _); have hc := hl; refine callK_prg hA hP [4, 2, 1] (by rfl) (by exact ⟨rfl, rfl, rfl, trivial⟩) (Wks.refl _) ?_ (fun _ _ => hc) hc.side; cbv) | (with_reducible refine hA.fin_tup _ _ _ ?_) | ((with_reducible show A.call _ _ _ _ false _ _ _ _); refine callK_no hA (.bool false) ?_; cbv) | ((with_reducible refine hA.len x _ _ _ _ fun z hz hb => ?_); (have e6 := hze.trans hz.symm); subst e6; cbv) | ((with_reducible refine hA.row x i _ ⟨hi, fun row hrow => ?_⟩); rw [q1] at hrow; subst hrow; cbv) | ((with_reducible refine hA.st [_, _, _, _, _, _, _] _ _ _ _ ⟨?_, fun ds hds => ?_⟩); rotate_left; (have hds : ds = [.int K, .int T, .int M, .e (.sl xe), .e (.sl ye), .int L, .int R] := hds); subst hds; cbv) | ((with_reducible first | refine hA.fin_pl _ _ _ ?_ | refine hA.len _ _ _ _ _ fun z hz hb => ?_ | refine hA.off _ _ _ _ fun b hb => ?_ | refine hA.plus _ _ _ fun b hb => ?_ | refine hA.rep _ _ _ fun ds m hds hm => ?_ | refine hA.alt _ _ (Or.inl ?_) | refine hA.gb0 true _ ?_ | refine hA.gb0 false _ ?_ | refine hA.gb _ _ fun vb hvb => ?_); cbv) | ((with_reducible first | refine hA.st _ _ _ _ _ ⟨?_, fun ds hds => ?_⟩ | refine hA.sapp _ _ _ ⟨?_, fun sl hsl => ?_⟩); rotate_left; cbv) | (simp only [hA.lits]; cbv)
            all_goals try simp only [hA.ar, inR, n_cast, Int.ofNat_eq_natCast, Option.getD_some, Option.getD_none] at *
            all_goals first | omega | exact hf' | rfl | trivial | (simp; done) | (trace_state; fail)
          · rw [if_pos rfl] at hal
            have vL := vL.1 rfl
            have hal0 := (hfj (i - 1) (by omega) (by omega)).1
            have hok2 := hok al (by rw [hst, if_pos rfl, if_pos vL, hal]) (by omega)
            clear hok hst hbad2 hfj
            cbv
            repeat' first | with_reducible rfl | (simp only [e8, k1, k2, vr0]; cbv) | with_reducible refine And.intro ?_ ?_ | ((with_reducible intro hcc); first | (cases hcc; done) | skip) | ((with_reducible first | show goC _ _ _ _ _ _ _ _ | show goOps _ _ _ _ _ | show goD _ _ _ _ _ _); cbv) | ((with_reducible show okWr _ _ = _); rfl) | ((with_reducible first | refine callK_f hA hP h252 ?_ ?_ ?_ | refine callK_f hA hP h251 ?_ ?_ ?_); exact rfl; exact rfl; cbv) | ((with_reducible show A.call _ _ _ _ _ 187 _ _ _); have hc := hl; refine callK_prg hA hP [4, 2, 1] (by rfl) (by exact ⟨rfl, rfl, rfl, trivial⟩) (Wks.refl _) ?_ (fun _ _ => hc) hc.side; cbv) | ((with_reducible show A.call _ _ _ _ false _ _ _ _); refine callK_no hA (.bool false) ?_; cbv) | ((with_reducible refine hA.len x _ _ _ _ fun z hz hb => ?_); (have e6 := hze.trans hz.symm); subst e6; cbv) | ((with_reducible refine hA.row x i _ ⟨hi, fun row hrow => ?_⟩); rw [q1] at hrow; subst hrow; cbv) | ((with_reducible refine hA.st [_, _, _, _, _, _, _] _ _ _ _ ⟨?_, fun ds hds => ?_⟩); rotate_left; (have hds : ds = [.int K, .int T, .int M, .e (.sl xe), .e (.sl ye), .int L, .int R] := hds); subst hds; cbv) | ((with_reducible first | refine hA.fin_pl _ _ _ ?_ | refine hA.len _ _ _ _ _ fun z hz hb => ?_ | refine hA.off _ _ _ _ fun b hb => ?_ | refine hA.plus _ _ _ fun b hb => ?_ | refine hA.rep _ _ _ fun ds m hds hm => ?_ | refine hA.alt _ _ (Or.inl ?_) | refine hA.gb0 true _ ?_ | refine hA.gb0 false _ ?_ | refine hA.gb _ _ fun vb hvb => ?_); cbv) | ((with_reducible first | refine hA.st _ _ _ _ _ ⟨?_, fun ds hds => ?_⟩ | refine hA.sapp _ _ _ ⟨?_, fun sl hsl => ?_⟩); rotate_left; cbv) | (simp only [hA.lits]; cbv)
            all_goals try simp only [hA.ar, inR, n_cast, Int.ofNat_eq_natCast, Option.getD_some, Option.getD_none] at *
            all_goals first
              | omega
              | exact hf'
              | trivial
              | exact hok2 _ _ _ _ (hset hds hb) ⟨rfl, rfl, rfl, rfl, rfl, rfl, rfl, trivial⟩
              | (rw [hl1]; omega)
              | (simp; done)
              | (trace_state; fail)
      · have vr0 : A.eq R 0 = false := by rw [hA.eq]; exact decide_eq_false hR0
        obtain ⟨rfl, rfl⟩ := hbad2 (by rw [hst, if_neg hR0])
        clear hok hst hbad2 hfj
        cbv
        repeat' first | with_reducible rfl | (simp only [e8, k1, k2, vr0]; cbv) | with_reducible refine And.intro ?_ ?_ | ((with_reducible intro hcc); first | (cases hcc; done) | skip) | ((with_reducible first | show goC _ _ _ _ _ _ _ _ | show goOps _ _ _ _ _ | show goD _ _ _ _ _ _); cbv) | ((with_reducible show okWr _ _ = _); rfl) | ((with_reducible first | refine callK_f hA hP h252 ?_ ?_ ?_ | refine callK_f hA hP h251 ?_ ?_ ?_); exact rfl; exact rfl; cbv) | (with_reducible refine hA.fin_tup _ _ _ ?_) | ((with_reducible show A.call _ _ _ _ false _ _ _ _); refine callK_no hA (.bool false) ?_; cbv) | ((with_reducible refine hA.len x _ _ _ _ fun z hz hb => ?_); (have e6 := hze.trans hz.symm); subst e6; cbv) | ((with_reducible refine hA.row x i _ ⟨hi, fun row hrow => ?_⟩); rw [q1] at hrow; subst hrow; cbv) | ((with_reducible refine hA.st [_, _, _, _, _, _, _] _ _ _ _ ⟨?_, fun ds hds => ?_⟩); rotate_left; (have hds : ds = [.int K, .int T, .int M, .e (.sl xe), .e (.sl ye), .int L, .int R] := hds); subst hds; cbv) | ((with_reducible first | refine hA.fin_pl _ _ _ ?_ | refine hA.len _ _ _ _ _ fun z hz hb => ?_ | refine hA.off _ _ _ _ fun b hb => ?_ | refine hA.plus _ _ _ fun b hb => ?_ | refine hA.rep _ _ _ fun ds m hds hm => ?_ | refine hA.alt _ _ (Or.inl ?_) | refine hA.gb0 true _ ?_ | refine hA.gb0 false _ ?_ | refine hA.gb _ _ fun vb hvb => ?_); cbv) | ((with_reducible first | refine hA.st _ _ _ _ _ ⟨?_, fun ds hds => ?_⟩ | refine hA.sapp _ _ _ ⟨?_, fun sl hsl => ?_⟩); rotate_left; cbv) | (simp only [hA.lits]; cbv)
        all_goals try simp only [hA.ar, inR, n_cast, Int.ofNat_eq_natCast, Option.getD_some, Option.getD_none] at *
        all_goals first | omega | exact hf' | rfl | trivial | (simp; done) | (trace_state; fail)
    · rw [if_pos rfl] at hst
      obtain ⟨okr, hokr⟩ : ∃ b, b = decide (1 ≤ i ∧ R = i - 1) := ⟨_, rfl⟩
      obtain ⟨ar, har⟩ : ∃ v, v = if okr then f (i - 1) else i := ⟨_, rfl⟩
      have hr := ok187 R i ar (f (i - 1)) n c1 ds1 hd1 i2.symm (by omega) (by omega) okr hokr (fun h => by
        have h' : 1 ≤ i ∧ R = i - 1 := by rw [hokr] at h; exact of_decide_eq_true h
        rw [h'.2]; exact (hfj _ (by omega) (by omega)).2) har
      have vR : okr = true ↔ (1 ≤ i ∧ R = i - 1) := by rw [hokr]; exact decide_eq_true_iff
      clear hokr
      cases okr
      · rw [if_neg (by simp)] at har
        rw [har] at hr
        obtain ⟨rfl, rfl⟩ := hbad2 (by rw [hst, if_neg (by rw [← vR]; simp)])
        clear hok hst hbad2 hfj
        cbv
        repeat' first | with_reducible rfl | (simp only [e8, k1, k2]; cbv) | with_reducible refine And.intro ?_ ?_ | ((with_reducible intro hcc); first | (cases hcc; done) | skip) | ((with_reducible first | show goC _ _ _ _ _ _ _ _ | show goOps _ _ _ _ _ | show goD _ _ _ _ _ _); cbv) | ((with_reducible show okWr _ _ = _); rfl) | ((with_reducible first | refine callK_f hA hP h252 ?_ ?_ ?_ | refine callK_f hA hP h251 ?_ ?_ ?_); exact rfl; exact rfl; cbv) | ((with_reducible show A.call _ _ _ _ _ 187 _ _ _); have hc := hr; refine callK_prg hA hP [4, 2, 1] (by rfl) (by exact ⟨rfl, rfl, rfl, trivial⟩) (Wks.refl _) ?_ (fun _ _ => hc) hc.side; cbv) | (with_reducible refine hA.fin_tup _ _ _ ?_) | ((with_reducible show A.call _ _ _ _ false _ _ _ _); refine callK_no hA (.bool false) ?_; cbv) | ((with_reducible refine hA.len x _ _ _ _ fun z hz hb => ?_); (have e6 := hze.trans hz.symm); subst e6; cbv) | ((with_reducible refine hA.row x i _ ⟨hi, fun row hrow => ?_⟩); rw [q1] at hrow; subst hrow; cbv) | ((with_reducible refine hA.st [_, _, _, _, _, _, _] _ _ _ _ ⟨?_, fun ds hds => ?_⟩); rotate_left; (have hds : ds = [.int K, .int T, .int M, .e (.sl xe), .e (.sl ye), .int L, .int R] := hds); subst hds; cbv) | ((with_reducible first | refine hA.fin_pl _ _ _ ?_ | refine hA.len _ _ _ _ _ fun z hz hb => ?_ | refine hA.off _ _ _ _ fun b hb => ?_ | refine hA.plus _ _ _ fun b hb => ?_ | refine hA.rep _ _ _ fun ds m hds hm => ?_ | refine hA.alt _ _ (Or.inl ?_) | refine hA.gb0 true _ ?_ | refine hA.gb0 false _ ?_ | refine hA.gb _ _ fun vb hvb => ?_); cbv) | ((with_reducible first | refine hA.st _ _ _ _ _ ⟨?_, fun ds hds => ?_⟩ | refine hA.sapp _ _ _ ⟨?_, fun sl hsl => ?_⟩); rotate_left; cbv) | (simp only [hA.lits]; cbv)
        all_goals try simp only [hA.ar, inR, n_cast, Int.ofNat_eq_natCast, Option.getD_some, Option.getD_none] at *
        all_goals first | omega | exact hf' | rfl | trivial | (simp; done) | (trace_state; fail)
      · rw [if_pos rfl] at har
        have vR := vR.1 rfl
        have har0 := (hfj (i - 1) (by omega) (by omega)).1
        rw [if_pos vR, ← har] at hst
        rw [← har] at har0
        cases bL
        · by_cases hL0 : L = 0
          · have vl0 : A.eq L 0 = true := by rw [hA.eq]; exact decide_eq_true hL0
            have hok2 := hok ar (by rw [hst, if_neg (by simp), if_pos hL0]) (by omega)
            clear hok hst hbad2 hfj
            cbv
            repeat' first | with_reducible rfl | (simp only [e8, k1, k2, vl0]; cbv) | with_reducible refine And.intro ?_ ?_ | ((with_reducible intro hcc); first | (cases hcc; done) | skip) | ((with_reducible first | show goC _ _ _ _ _ _ _ _ | show goOps _ _ _ _ _ | show goD _ _ _ _ _ _); cbv) | ((with_reducible show okWr _ _ = _); rfl) | ((with_reducible first | refine callK_f hA hP h252 ?_ ?_ ?_ | refine callK_f hA hP h251 ?_ ?_ ?_); exact rfl; exact rfl; cbv) | ((with_reducible show A.call _ _ _ _ _ 187 _ _ _); have hc := hr; refine callK_prg hA hP [4, 2, 1] (by rfl) (by exact ⟨rfl, rfl, rfl, trivial⟩) (Wks.refl _) ?_ (fun _ _ => hc) hc.side; cbv) | ((with_reducible show A.call _ _ _ _ false _ _ _ _); refine callK_no hA (.bool false) ?_; cbv) | ((with_reducible refine hA.len x _ _ _ _ fun z hz hb => ?_); (have e6 := hze.trans hz.symm); subst e6; cbv) | ((with_reducible refine hA.row x i _ ⟨hi, fun row hrow => ?_⟩); rw [q1] at hrow; subst hrow; cbv) | ((with_reducible refine hA.st [_, _, _, _, _, _, _] _ _ _ _ ⟨?_, fun ds hds => ?_⟩); rotate_left; (have hds : ds = [.int K, .int T, .int M, .e (.sl xe), .e (.sl ye), .int L, .int R] := hds); subst hds; cbv) | ((with_reducible first | refine hA.fin_pl _ _ _ ?_ | refine hA.len _ _ _ _ _ fun z hz hb => ?_ | refine hA.off _ _ _ _ fun b hb => ?_ | refine hA.plus _ _ _ fun b hb => ?_ | refine hA.rep _ _ _ fun ds m hds hm => ?_ | refine hA.alt _ _ (Or.inl ?_) | refine hA.gb0 true _ ?_ | refine hA.gb0 false _ ?_ | refine hA.gb _ _ fun vb hvb => ?_); cbv) | ((with_reducible first | refine hA.st _ _ _ _ _ ⟨?_, fun ds hds => ?_⟩ | refine hA.sapp _ _ _ ⟨?_, fun sl hsl => ?_⟩); rotate_left; cbv) | (simp only [hA.lits]; cbv)
            all_goals try simp only [hA.ar, inR, n_cast, Int.ofNat_eq_natCast, Option.getD_some, Option.getD_none] at *
            all_goals first
              | omega
              | exact hf'
              | trivial
              | exact hok2 _ _ _ _ (hset hds hb) ⟨rfl, rfl, rfl, rfl, rfl, rfl, rfl, trivial⟩
              | (rw [hl1]; omega)
              | (simp; done)
              | (trace_state; fail)
          · have vl0 : A.eq L 0 = false := by rw [hA.eq]; exact decide_eq_false hL0
            obtain ⟨rfl, rfl⟩ := hbad2 (by rw [hst, if_neg (by simp), if_neg hL0])
            clear hok hst hbad2 hfj
            cbv
            repeat' first | with_reducible rfl | (simp only [e8, k1, k2, vl0]; cbv) | with_reducible refine And.intro ?_ ?_ | ((with_reducible intro hcc); first | (cases hcc; done) | skip) | ((with_reducible first | show goC _ _ _ _ _ _ _ _ | show goOps _ _ _ _ _ | show goD _ _ _ _ _ _); cbv) | ((with_reducible show okWr _ _ = _); rfl) | ((with_reducible first | refine callK_f hA hP h252 ?_ ?_ ?_ | refine callK_f hA hP h251 ?_ ?_ ?_); exact rfl; exact rfl; cbv) | ((with_reducible show A.call _ _ _ _ _ 187 _ _ _); have hc := hr; refine callK_prg hA hP [4, 2, 1] (by rfl) (by exact ⟨rfl, rfl, rfl, trivial⟩) (Wks.refl _) ?_ (fun _ _ => hc) hc.side; cbv) | (with_reducible refine hA.fin_tup _ _ _ ?_) | ((with_reducible show A.call _ _ _ _ false _ _ _ _); refine callK_no hA (.bool false) ?_; cbv) | ((with_reducible refine hA.len x _ _ _ _ fun z hz hb => ?_); (have e6 := hze.trans hz.symm); subst e6; cbv) | ((with_reducible refine hA.row x i _ ⟨hi, fun row hrow => ?_⟩); rw [q1] at hrow; subst hrow; cbv) | ((with_reducible refine hA.st [_, _, _, _, _, _, _] _ _ _ _ ⟨?_, fun ds hds => ?_⟩); rotate_left; (have hds : ds = [.int K, .int T, .int M, .e (.sl xe), .e (.sl ye), .int L, .int R] := hds); subst hds; cbv) | ((with_reducible first | refine hA.fin_pl _ _ _ ?_ | refine hA.len _ _ _ _ _ fun z hz hb => ?_ | refine hA.off _ _ _ _ fun b hb => ?_ | refine hA.plus _ _ _ fun b hb => ?_ | refine hA.rep _ _ _ fun ds m hds hm => ?_ | refine hA.alt _ _ (Or.inl ?_) | refine hA.gb0 true _ ?_ | refine hA.gb0 false _ ?_ | refine hA.gb _ _ fun vb hvb => ?_); cbv) | ((with_reducible first | refine hA.st _ _ _ _ _ ⟨?_, fun ds hds => ?_⟩ | refine hA.sapp _ _ _ ⟨?_, fun sl hsl => ?_⟩); rotate_left; cbv) | (simp only [hA.lits]; cbv)
            all_goals try simp only [hA.ar, inR, n_cast, Int.ofNat_eq_natCast, Option.getD_some, Option.getD_none] at *
            all_goals first | omega | exact hf' | rfl | trivial | (simp; done) | (trace_state; fail)
        · obtain ⟨okl, hokl⟩ : ∃ b, b = decide (1 ≤ ar ∧ L = ar - 1) := ⟨_, rfl⟩
          obtain ⟨al, hal⟩ : ∃ v, v = if okl then f (ar - 1) else ar := ⟨_, rfl⟩
          have hl := ok187 L ar al (f (ar - 1)) n c1 ds1 hd1 i2.symm (by omega) (by omega) okl hokl (fun h => by
            have h' : 1 ≤ ar ∧ L = ar - 1 := by rw [hokl] at h; exact of_decide_eq_true h
            rw [h'.2]; exact (hfj _ (by omega) (by omega)).2) hal
          have vL : okl = true ↔ (1 ≤ ar ∧ L = ar - 1) := by rw [hokl]; exact decide_eq_true_iff
          clear hokl
          cases okl
          · rw [if_neg (by simp)] at hal
            rw [hal] at hl
            obtain ⟨rfl, rfl⟩ := hbad2 (by rw [hst, if_pos rfl, if_neg (by rw [← vL]; simp)])
            clear hok hst hbad2 hfj
            cbv
            repeat' first | with_reducible rfl | (simp only [e8, k1, k2]; cbv) | with_reducible refine And.intro ?_ ?_ | ((with_reducible intro hcc); first | (cases hcc; done) | skip) | ((with_reducible first | show goC _ _ _ _ _ _ _ _ | show goOps _ _ _ _ _ | show goD _ _ _ _ _ _); cbv) | ((with_reducible show okWr _ _ = _); rfl) | ((with_reducible first | refine callK_f hA hP h252 ?_ ?_ ?_ | refine callK_f hA hP h251 ?_ ?_ ?_); exact rfl; exact rfl; cbv) | ((with_reducible show A.call _ _ _ _ _ 187 _ _ _); have hc := hr; refine callK_prg hA hP [4, 2, 1] (by rfl) (by exact ⟨rfl, rfl, rfl, trivial⟩) (Wks.refl _) ?_ (fun _ _ => hc) hc.side; cbv) | ((with_reducible show A.call _ _ _ _ _ 187 _ _ _); have hc := hl; refine callK_prg hA hP [4, 2, 1] (by rfl) (by exact ⟨rfl, rfl, rfl, trivial⟩) (Wks.refl _) ?_ (fun _ _ => hc) hc.side; cbv) | (with_reducible refine hA.fin_tup _ _ _ ?_) | ((with_reducible show A.call _ _ _ _ false _ _ _ _); refine callK_no hA (.bool false) ?_; cbv) | ((with_reducible refine hA.len x _ _ _ _ fun z hz hb => ?_); (have e6 := hze.trans hz.symm); subst e6; cbv) | ((with_reducible refine hA.row x i _ ⟨hi, fun row hrow => ?_⟩); rw [q1] at hrow; subst hrow; cbv) | ((with_reducible refine hA.st [_, _, _, _, _, _, _] _ _ _ _ ⟨?_, fun ds hds => ?_⟩); rotate_left; (have hds : ds = [.int K, .int T, .int M, .e (.sl xe), .e (.sl ye), .int L, .int R] := hds); subst hds; cbv) | ((with_reducible first | refine hA.fin_pl _ _ _ ?_ | refine hA.len _ _ _ _ _ fun z hz hb => ?_ | refine hA.off _ _ _ _ fun b hb => ?_ | refine hA.plus _ _ _ fun b hb => ?_ | refine hA.rep _ _ _ fun ds m hds hm => ?_ | refine hA.alt _ _ (Or.inl ?_) | refine hA.gb0 true _ ?_ | refine hA.gb0 false _ ?_ | refine hA.gb _ _ fun vb hvb => ?_); cbv) | ((with_reducible first | refine hA.st _ _ _ _ _ ⟨?_, fun ds hds => ?_⟩ | refine hA.sapp _ _ _ ⟨?_, fun sl hsl => ?_⟩); rotate_left; cbv) | (simp only [hA.lits]; cbv)
            all_goals try simp only [hA.ar, inR, n_cast, Int.ofNat_eq_natCast, Option.getD_some, Option.getD_none] at *
            all_goals first | omega | exact hf' | rfl | trivial | (simp; done) | (trace_state; fail)
          · rw [if_pos rfl] at hal
            have vL := vL.1 rfl
            have hal0 := (hfj (ar - 1) (by omega) (by omega)).1
            have hok2 := hok al (by rw [hst, if_pos rfl, if_pos vL, hal]) (by omega)
            clear hok hst hbad2 hfj
            cbv
            repeat' first | with_reducible rfl | (simp only [e8, k1, k2]; cbv) | with_reducible refine And.intro ?_ ?_ | ((with_reducible intro hcc); first | (cases hcc; done) | skip) | ((with_reducible first | show goC _ _ _ _ _ _ _ _ | show goOps _ _ _ _ _ | show goD _ _ _ _ _ _); cbv) | ((with_reducible show okWr _ _ = _); rfl) | ((with_reducible first | refine callK_f hA hP h252 ?_ ?_ ?_ | refine callK_f hA hP h251 ?_ ?_ ?_); exact rfl; exact rfl; cbv) | ((with_reducible show A.call _ _ _ _ _ 187 _ _ _); have hc := hr; refine callK_prg hA hP [4, 2, 1] (by rfl) (by exact ⟨rfl, rfl, rfl, trivial⟩) (Wks.refl _) ?_ (fun _ _ => hc) hc.side; cbv) | ((with_reducible show A.call _ _ _ _ _ 187 _ _ _); have hc := hl; refine callK_prg hA hP [4, 2, 1] (by rfl) (by exact ⟨rfl, rfl, rfl, trivial⟩) (Wks.refl _) ?_ (fun _ _ => hc) hc.side; cbv) | ((with_reducible show A.call _ _ _ _ false _ _ _ _); refine callK_no hA (.bool false) ?_; cbv) | ((with_reducible refine hA.len x _ _ _ _ fun z hz hb => ?_); (have e6 := hze.trans hz.symm); subst e6; cbv) | ((with_reducible refine hA.row x i _ ⟨hi, fun row hrow => ?_⟩); rw [q1] at hrow; subst hrow; cbv) | ((with_reducible refine hA.st [_, _, _, _, _, _, _] _ _ _ _ ⟨?_, fun ds hds => ?_⟩); rotate_left; (have hds : ds = [.int K, .int T, .int M, .e (.sl xe), .e (.sl ye), .int L, .int R] := hds); subst hds; cbv) | ((with_reducible first | refine hA.fin_pl _ _ _ ?_ | refine hA.len _ _ _ _ _ fun z hz hb => ?_ | refine hA.off _ _ _ _ fun b hb => ?_ | refine hA.plus _ _ _ fun b hb => ?_ | refine hA.rep _ _ _ fun ds m hds hm => ?_ | refine hA.alt _ _ (Or.inl ?_) | refine hA.gb0 true _ ?_ | refine hA.gb0 false _ ?_ | refine hA.gb _ _ fun vb hvb => ?_); cbv) | ((with_reducible first | refine hA.st _ _ _ _ _ ⟨?_, fun ds hds => ?_⟩ | refine hA.sapp _ _ _ ⟨?_, fun sl hsl => ?_⟩); rotate_left; cbv) | (simp only [hA.lits]; cbv)
            all_goals try simp only [hA.ar, inR, n_cast, Int.ofNat_eq_natCast, Option.getD_some, Option.getD_none] at *
            all_goals first
              | omega
              | exact hf'
              | trivial
              | exact hok2 _ _ _ _ (hset hds hb) ⟨rfl, rfl, rfl, rfl, rfl, rfl, rfl, trivial⟩
              | (rw [hl1]; omega)
              | (simp; done)
              | (trace_state; fail))
end Go.Proofs.Ytfplalbognalkaa.Ab
/- Plans: valid or not, by both. -/
namespace Go.Proofs.Ytfplalbognalkaa.Ab
open Go
theorem dbOk_cols {ts : List Tb} (h : dbOk ts = true) (t : Int) (h0 : 0 ≤ t) (h1 : t < ts.length) : 1 ≤ colsOf ts t ∧ colsOf ts t ≤ 16 := by
  simp only [dbOk, Bool.and_eq_true, List.all_eq_true] at h
  have := h.2.1 t.toNat (by simp; omega)
  simp only [good, Bool.and_eq_true, decide_eq_true_eq] at this
  unfold colsOf
  grind
theorem ndS_lo {d : Pd} {cols : Int → Int} {env l r : Int} (hl : 0 ≤ l) (hr : 0 ≤ r) (hT : d.K = 2 → 0 ≤ cols d.T) : -1 ≤ ndS d cols env l r := by
  unfold ndS
  simp only
  repeat' split
  all_goals first | omega | (have := hT (by assumption); omega)
theorem wS_lo {ns : List Pd} {nt : Int} {cols : Int → Int} (hc : ∀ t, 0 ≤ t → t < nt → 0 ≤ cols t) : ∀ (n : Nat) (i env : Int), -1 ≤ wS ns nt cols n i env
  | 0, i, env => by simp [wS]
  | n + 1, i, env => by
    have key : ∀ (d : Pd) (u : Bool) (l r v : Int), u = usedS d nt → (v = if u = false then -1 else if l < 0 then -1 else if r < 0 then -1 else ndS d cols env l r) → -1 ≤ v := fun d u l r v hu e => by
      subst e
      split
      · omega
      · rename_i h1
        split
        · omega
        · split
          · omega
          · refine ndS_lo (by omega) (by omega) fun h => ?_
            have h2 : usedS d nt = true := by rw [← hu]; simpa using h1
            simp only [usedS, h] at h2
            simp at h2
            exact hc _ (by omega) (by omega)
    simp only [wS]
    exact key _ _ _ _ _ rfl rfl
theorem cT_in {ts : List Tb} (h : dbOk ts = true) : ∀ t : Int, 0 ≤ t → t < ts.length → 0 ≤ colsOf ts t ∧ colsOf ts t ≤ 1000 := fun t h0 h1 => by
  have := dbOk_cols h t h0 h1
  omega
set_option maxRecDepth 100000 in
set_option maxHeartbeats 4000000 in
theorem ok82 (ns : List Pd) (x : List (List E)) (hx : x = ns.map pdr) (hlen : ∀ d ∈ ns, d.Ex.length ≤ 1048576 ∧ d.Exs.length ≤ 1048576 ∧ ∀ e ∈ d.Exs, e.length ≤ 1048576) (ts : List Tb) (xt : List (List E)) (hxt : xt = ts.map tbr) (hct : ∀ t : Int, 0 ≤ t → t < ts.length → 0 ≤ colsOf ts t ∧ colsOf ts t ≤ 1000) (hin : InP ns) :
    ∀ (n : Nat) (i env : Int), 0 ≤ i → i < n → i < x.length → 0 ≤ env → env ≤ 200 → Plain Try.prog 82 [.agg [.e (.sl x)], .agg [.e (.sl xt)], .int i, .int env] (.int (wS ns ts.length (colsOf ts) n i env)) := by
  intro n
  induction n with
  | zero => intro i env h1 h2; omega
  | succ n ih =>
    intro i env h1 h2 h3 he1 he2
    have hi : (0 : Int) ≤ i ∧ i < x.length := ⟨h1, h3⟩
    have hxn : x.length = ns.length := by rw [hx]; simp
    obtain ⟨K, T, M, Ex, Exs, L, R, xe, ye, q0, qm, hxe, hye, q1⟩ := pd_at hx hi
    obtain ⟨hK, hKL, hKR⟩ := hin i h1 (by omega)
    obtain ⟨z1, z2, z3⟩ := hlen _ qm
    rw [q0] at hK hKL hKR
    simp only at hK hKL hKR z1 z2 z3
    have hlo : ∀ j e, -1 ≤ wS ns ts.length (colsOf ts) n j e := fun j e => wS_lo (fun t a b => (hct t a b).1) _ _ _
    obtain ⟨l, hl⟩ : ∃ l, l = wS ns ts.length (colsOf ts) n L env := ⟨_, rfl⟩
    obtain ⟨g, hg⟩ : ∃ g : Int → Int, g = wS ns ts.length (colsOf ts) n R := ⟨_, rfl⟩
    have hl1 : hasL K = true → Plain Try.prog 82 [.agg [.e (.sl x)], .agg [.e (.sl xt)], .int L, .int env] (.int l) := fun h => by
      have := hKL h
      rw [hl]; exact ih L env this.1 (by omega) (by omega) he1 he2
    have hl2 : -1 ≤ l ∧ l ≤ 200 ∧ (0 ≤ l → env + l ≤ 200) := by
      have a := hlo L env
      rw [← hl] at a
      by_cases h : 0 ≤ l
      · have := wS_rng (hl ▸ h)
        rw [← hl] at this
        exact ⟨a, by omega, fun _ => this⟩
      · exact ⟨a, by omega, fun q => absurd q h⟩
    have hr1 : ∀ e, hasR K = true → 0 ≤ e → e ≤ 200 → Plain Try.prog 82 [.agg [.e (.sl x)], .agg [.e (.sl xt)], .int R, .int e] (.int (g e)) := fun e h a b => by
      have := hKR h
      rw [hg]; exact ih R e this.1 (by omega) (by omega) a b
    have hr2 : ∀ e, 0 ≤ e → -1 ≤ g e ∧ g e ≤ 200 := fun e h0 => by
      have a := hlo R e
      rw [← hg] at a
      by_cases h : 0 ≤ g e
      · have := wS_rng (hg ▸ h)
        rw [← hg] at this
        exact ⟨a, by omega⟩
      · exact ⟨a, by omega⟩
    simp only [wS]
    rw [q0, ← hg, ← hl]
    simp only
    have b1 : xe.length ≤ 1048576 := by rw [hxe, List.length_map]; exact z1
    have b2 : ye.length ≤ 1048576 := by rw [hye, List.length_map]; exact z2
    have e2 := hr2 env he1
    clear ih hlo hl hg hin hlen q0 qm hKL hKR
    rcases (show K = 1 ∨ K = 2 ∨ K = 3 ∨ K = 4 ∨ K = 5 ∨ K = 6 ∨ K = 7 ∨ K = 8 ∨ K = 9 ∨ K = 10 by omega) with rfl | rfl | rfl | rfl | rfl | rfl | rfl | rfl | rfl | rfl
    · exact ok243_1 T M Ex Exs L R xe ye x xt hxe hye ts hxt b1 b2 z3 i env 0 0 hi q1 ⟨he1, he2⟩ (by omega) (by omega) hct
    · exact ok243_2 T M Ex Exs L R xe ye x xt hxe hye ts hxt b1 b2 z3 i env 0 0 hi q1 ⟨he1, he2⟩ (by omega) (by omega) hct
    · exact ok243_3 T M Ex Exs L R xe ye x xt hxe hye ts hxt b1 b2 z3 i env l 0 hi q1 ⟨he1, he2⟩ (by omega) (by omega) hct (hl1 rfl)
    · exact ok243_4 T M Ex Exs L R xe ye x xt hxe hye ts hxt b1 b2 z3 i env l 0 hi q1 ⟨he1, he2⟩ (by omega) (by omega) hct (hl1 rfl)
    · exact ok243_5 T M Ex Exs L R xe ye x xt hxe hye ts hxt b1 b2 z3 i env l (g env) hi q1 ⟨he1, he2⟩ (by omega) e2 hct (hl1 rfl) (fun _ _ => hr1 env rfl he1 he2)
    · by_cases h : 0 ≤ l
      · exact ok243_6 T M Ex Exs L R xe ye x xt hxe hye ts hxt b1 b2 z3 i env l (g (env + l)) hi q1 ⟨he1, he2⟩ (by omega) (hr2 _ (by omega)) hct (hl1 rfl) (fun _ h => hr1 (env + l) rfl (by omega) (hl2.2.2 h))
      · have := ok243_6 T M Ex Exs L R xe ye x xt hxe hye ts hxt b1 b2 z3 i env l 0 hi q1 ⟨he1, he2⟩ (by omega) (by omega) hct (hl1 rfl) (fun _ h' => absurd h' h)
        rw [if_pos (show l < 0 by omega)] at this
        rw [show (if hasL 6 = true then l else 0) = l from rfl, if_pos (show l < 0 by omega)]
        exact this
    · by_cases h : 0 ≤ l
      · exact ok243_7 T M Ex Exs L R xe ye x xt hxe hye ts hxt b1 b2 z3 i env l (g (env + l)) hi q1 ⟨he1, he2⟩ (by omega) (hr2 _ (by omega)) hct (hl1 rfl) (fun _ h => hr1 (env + l) rfl (by omega) (hl2.2.2 h))
      · have := ok243_7 T M Ex Exs L R xe ye x xt hxe hye ts hxt b1 b2 z3 i env l 0 hi q1 ⟨he1, he2⟩ (by omega) (by omega) hct (hl1 rfl) (fun _ h' => absurd h' h)
        rw [if_pos (show l < 0 by omega)] at this
        rw [show (if hasL 7 = true then l else 0) = l from rfl, if_pos (show l < 0 by omega)]
        exact this
    · by_cases h : 0 ≤ l
      · exact ok243_8 T M Ex Exs L R xe ye x xt hxe hye ts hxt b1 b2 z3 i env l (g (env + l)) hi q1 ⟨he1, he2⟩ (by omega) (hr2 _ (by omega)) hct (hl1 rfl) (fun _ h => hr1 (env + l) rfl (by omega) (hl2.2.2 h))
      · have := ok243_8 T M Ex Exs L R xe ye x xt hxe hye ts hxt b1 b2 z3 i env l 0 hi q1 ⟨he1, he2⟩ (by omega) (by omega) hct (hl1 rfl) (fun _ h' => absurd h' h)
        rw [if_pos (show l < 0 by omega)] at this
        rw [show (if hasL 8 = true then l else 0) = l from rfl, if_pos (show l < 0 by omega)]
        exact this
    · exact ok243_9 T M Ex Exs L R xe ye x xt hxe hye ts hxt b1 b2 z3 i env l 0 hi q1 ⟨he1, he2⟩ (by omega) (by omega) hct (hl1 rfl)
    · exact ok243_10 T M Ex Exs L R xe ye x xt hxe hye ts hxt b1 b2 z3 i env l (g env) hi q1 ⟨he1, he2⟩ (by omega) e2 hct (hl1 rfl) (fun _ _ => hr1 env rfl he1 he2)
/-- The operator of a plan's root. -/
def rootO (ns : List Pd) (ts : List Tb) : Option Ot := if dbOk ts = true ∧ ordOk ns = true then mkO ns ts ns.length ((ns.length : Int) - 1) 0 else none
theorem root_w (ns : List Pd) (ts : List Tb) : (rootO ns ts).map Ot.w = if planW ns ts < 0 then none else some (planW ns ts) := by
  unfold rootO planW
  split
  · rename_i h
    have hn : 1 ≤ ns.length ∧ ns.length ≤ 2000 := by
      have := h.2
      simp only [ordOk, Bool.and_eq_true, decide_eq_true_eq] at this
      exact this.1
    rw [mk_w, w_eq (ord_in h.2) (fun t a b => (cT_in h.1 t a b).1) _ _ _ (by omega) (by omega)]
  · simp
theorem root_sm {ns : List Pd} {ts : List Tb} {o : Ot} (hlen : ∀ d ∈ ns, d.Exs.length ≤ 1048576) (h : rootO ns ts = some o) : o.sm ∧ 0 ≤ o.w ∧ o.w ≤ 200 := by
  unfold rootO at h
  split at h
  · rename_i hb
    have := mk_sm hlen (cT_in hb.1) _ _ _ _ (Int.le_refl 0) h
    exact ⟨this.1, this.2.1, by omega⟩
  · cases h
set_option maxRecDepth 100000 in
set_option maxHeartbeats 4000000 in
theorem ok84 (ns : List Pd) (x : List (List E)) (hx : x = ns.map pdr) (hxl : x.length ≤ 1048576) (hlen : ∀ d ∈ ns, d.Ex.length ≤ 1048576 ∧ d.Exs.length ≤ 1048576 ∧ ∀ e ∈ d.Exs, e.length ≤ 1048576) (ts : List Tb) (xt : List (List E)) (hxt : xt = ts.map tbr) (hsz : cTS ts ≤ 1048576) :
    Plain Try.prog 84 [.agg [.e (.sl x)], .agg [.e (.sl xt)]] (.e (optE (rootO ns ts))) := okOf mixed p84 fun A P hA hP => (by
  have hxn : x.length = ns.length := by rw [hx]; simp
  obtain ⟨ze, hze⟩ : ∃ z : Int, z = x.length := ⟨_, rfl⟩
  obtain ⟨aok, haok⟩ : ∃ b : Bool, b = true ↔ allF ns := by
    by_cases h : allF ns
    · exact ⟨true, by simp [h]⟩
    · exact ⟨false, by simp [h]⟩
  obtain ⟨b, hb0⟩ : ∃ b, b = ordOk ns := ⟨_, rfl⟩
  obtain ⟨xs, hxs⟩ : ∃ xs : List (List E), xs = if aok then ((List.range ns.length).map (fr ns)).map ir else [] := ⟨_, rfl⟩
  have h292 := ok146 ns x hx hxl aok b haok hb0 xs hxs
  have h38 := ok135 ts xt hxt hsz
  obtain ⟨db, hdb⟩ : ∃ b, b = dbOk ts := ⟨_, rfl⟩
  rw [← hdb] at h38
  obtain ⟨res, hres⟩ : ∃ e, e = optE (rootO ns ts) := ⟨_, rfl⟩
  rw [← hres]
  rw [rootO, ← hdb, ← hb0] at hres
  cases b
  · have hr2 : res = .v .nilIface := by rw [hres, if_neg (by simp)]; rfl
    cbv
    repeat' first | with_reducible rfl | with_reducible refine And.intro ?_ ?_ | ((with_reducible intro hcc); first | (cases hcc; done) | skip) | ((with_reducible first | show goC _ _ _ _ _ _ _ _ | show goOps _ _ _ _ _ | show goD _ _ _ _ _ _); cbv) | ((with_reducible show okWr _ _ = _); rfl) | ((with_reducible first | refine callK_f hA hP h292 ?_ ?_ ?_ | refine callK_f hA hP h38 ?_ ?_ ?_); exact rfl; exact rfl; cbv) | ((with_reducible show A.call _ _ _ _ false _ _ _ _); refine callK_no hA (.bool false) ?_; cbv) | ((with_reducible first | refine hA.fin_pl _ _ _ ?_ | refine hA.len _ _ _ _ _ fun z hz hb => ?_ | refine hA.gb0 true _ ?_ | refine hA.gb0 false _ ?_ | refine hA.gb _ _ fun vb hvb => ?_); cbv) | (simp only [hA.lits]; cbv)
    all_goals try simp only [hA.ar, inR, n_cast, Int.ofNat_eq_natCast, Option.getD_some, Option.getD_none] at *
    all_goals first | omega | rfl | trivial | (rw [hr2]; done) | (simp; done) | (trace_state; fail)
  · cases db
    · have hr2 : res = .v .nilIface := by rw [hres, if_neg (by simp)]; rfl
      cbv
      repeat' first | with_reducible rfl | with_reducible refine And.intro ?_ ?_ | ((with_reducible intro hcc); first | (cases hcc; done) | skip) | ((with_reducible first | show goC _ _ _ _ _ _ _ _ | show goOps _ _ _ _ _ | show goD _ _ _ _ _ _); cbv) | ((with_reducible show okWr _ _ = _); rfl) | ((with_reducible first | refine callK_f hA hP h292 ?_ ?_ ?_ | refine callK_f hA hP h38 ?_ ?_ ?_); exact rfl; exact rfl; cbv) | ((with_reducible first | refine hA.fin_pl _ _ _ ?_ | refine hA.len _ _ _ _ _ fun z hz hb => ?_ | refine hA.gb0 true _ ?_ | refine hA.gb0 false _ ?_ | refine hA.gb _ _ fun vb hvb => ?_); cbv) | (simp only [hA.lits]; cbv)
      all_goals try simp only [hA.ar, inR, n_cast, Int.ofNat_eq_natCast, Option.getD_some, Option.getD_none] at *
      all_goals first | omega | rfl | trivial | (rw [hr2]; done) | (simp; done) | (trace_state; fail)
    · rw [if_pos ⟨rfl, rfl⟩] at hres
      have hn : 1 ≤ ns.length ∧ ns.length ≤ 2000 := by
        have := hb0.symm
        simp only [ordOk, Bool.and_eq_true, decide_eq_true_eq] at this
        exact this.1
      obtain ⟨zl, hzl⟩ : ∃ z, z = A.sub ze 1 := ⟨_, rfl⟩
      have hzl2 : zl = (ns.length : Int) - 1 := by rw [hzl, hA.sub]; omega
      rw [← hzl2] at hres
      have h293 := ok147 ns x hx hxl hlen ts xt hxt (cT_in hdb.symm) (ord_in hb0.symm) xs ns.length zl 0 (by omega) (by omega) (by omega) (by omega) (by omega)
      rw [← hres] at h293
      clear hres hxs haok hb0 hlen
      cbv
      repeat' first | with_reducible rfl | (simp only [← hzl]; cbv) | with_reducible refine And.intro ?_ ?_ | ((with_reducible intro hcc); first | (cases hcc; done) | skip) | ((with_reducible first | show goC _ _ _ _ _ _ _ _ | show goOps _ _ _ _ _ | show goD _ _ _ _ _ _); cbv) | ((with_reducible show okWr _ _ = _); rfl) | ((with_reducible first | refine callK_f hA hP h292 ?_ ?_ ?_ | refine callK_f hA hP h38 ?_ ?_ ?_ | refine callK_f hA hP h293 ?_ ?_ ?_); exact rfl; exact rfl; cbv) | ((with_reducible refine hA.len x _ _ _ _ fun z hz hb => ?_); (have e6 := hze.trans hz.symm); subst e6; cbv) | ((with_reducible first | refine hA.fin_pl _ _ _ ?_ | refine hA.len _ _ _ _ _ fun z hz hb => ?_ | refine hA.gb0 true _ ?_ | refine hA.gb0 false _ ?_ | refine hA.gb _ _ fun vb hvb => ?_); cbv) | (simp only [hA.lits]; cbv)
      all_goals try simp only [hA.ar, inR, n_cast, Int.ofNat_eq_natCast, Option.getD_some, Option.getD_none] at *
      all_goals first | omega | rfl | trivial | (simp; done) | (trace_state; fail))
set_option maxRecDepth 100000 in
set_option maxHeartbeats 4000000 in
theorem ok38 (ns : List Pd) (x : List (List E)) (hx : x = ns.map pdr) (hxl : x.length ≤ 1048576) (hlen : ∀ d ∈ ns, d.Ex.length ≤ 1048576 ∧ d.Exs.length ≤ 1048576 ∧ ∀ e ∈ d.Exs, e.length ≤ 1048576) (ts : List Tb) (xt : List (List E)) (hxt : xt = ts.map tbr) (hsz : cTS ts ≤ 1048576) (w : Int) (ok : Bool) (hw : w = if planW ns ts < 0 then 0 else planW ns ts) (hok : ok = !decide (planW ns ts < 0)) :
    Plain Try.prog 38 [.agg [.e (.sl x)], .agg [.e (.sl xt)]] (.tup [.int w, .bool ok]) := okOf mixed p38 fun A P hA hP => (by
  have h245 := ok84 ns x hx hxl hlen ts xt hxt hsz
  have hrw := root_w ns ts
  have hsm := fun o => root_sm (ts := ts) (o := o) fun d hd => (hlen d hd).2.1
  cases ho : rootO ns ts with
  | none =>
    rw [ho] at h245 hrw
    have h245 : Plain Try.prog 84 [.agg [.e (.sl x)], .agg [.e (.sl xt)]] (.e (.v .nilIface)) := h245
    have hp : planW ns ts < 0 := by
      by_cases h : planW ns ts < 0
      · exact h
      · rw [if_neg h] at hrw; cases hrw
    rw [if_pos hp] at hw
    rw [decide_eq_true hp] at hok
    subst hw; subst hok
    cbv
    repeat' first | with_reducible rfl | with_reducible refine And.intro ?_ ?_ | ((with_reducible intro hcc); first | (cases hcc; done) | skip) | ((with_reducible first | show goC _ _ _ _ _ _ _ _ | show goOps _ _ _ _ _ | show goD _ _ _ _ _ _); cbv) | ((with_reducible show okWr _ _ = _); rfl) | ((with_reducible first | refine callK_f hA hP h245 ?_ ?_ ?_); exact rfl; exact rfl; cbv) | (with_reducible refine hA.fin_tup _ _ _ ?_) | ((with_reducible first | refine hA.fin_pl _ _ _ ?_); cbv) | (simp only [hA.lits]; cbv)
    all_goals try simp only [hA.ar, inR, n_cast, Int.ofNat_eq_natCast, Option.getD_some, Option.getD_none] at *
    all_goals first | omega | rfl | trivial | (simp; done) | (trace_state; fail)
  | some o =>
    rw [ho] at h245 hrw
    obtain ⟨s1, s2, s3⟩ := hsm o ho
    obtain ⟨T3, c3, w3, b1, b2, b3⟩ := wid_of s1 (by omega)
    have h245 : Plain Try.prog 84 [.agg [.e (.sl x)], .agg [.e (.sl xt)]] (.e (.ia T3 c3)) := by rw [← b1]; exact h245
    have hp : ¬ planW ns ts < 0 := fun h => by rw [if_pos h] at hrw; cases hrw
    rw [if_neg hp] at hw hrw
    rw [decide_eq_false hp] at hok
    have hww : w = w3 := by rw [hw, ← b2]; exact (Option.some.inj hrw).symm
    subst hok
    rw [hww]
    obtain ⟨⟨fn3, d3, hd3, hfr3, hm3, hp3⟩⟩ := b3
    have hm3 : MRow P T3 "loop.example/s0035/impl.width" fn3 := hP ▸ hm3
    cbv
    repeat' first | with_reducible rfl | with_reducible refine And.intro ?_ ?_ | ((with_reducible intro hcc); first | (cases hcc; done) | skip) | ((with_reducible first | show goC _ _ _ _ _ _ _ _ | show goOps _ _ _ _ _ | show goD _ _ _ _ _ _); cbv) | ((with_reducible show okWr _ _ = _); rfl) | ((with_reducible first | refine callK_f hA hP h245 ?_ ?_ ?_); exact rfl; exact rfl; cbv) | (with_reducible refine hA.fin_tup _ _ _ ?_) | ((with_reducible refine hA.invk hm3 hd3 ?_); cbv) | ((with_reducible show A.call _ _ _ _ _ fn3 _ _ _); refine callK_eq hA hP hfr3 rfl ?_ (Wks.refl _) (fun _ _ => hp3); cbv) | ((with_reducible first | refine hA.fin_pl _ _ _ ?_); cbv) | (simp only [hA.lits]; cbv)
    all_goals try simp only [hA.ar, inR, n_cast, Int.ofNat_eq_natCast, Option.getD_some, Option.getD_none] at *
    all_goals first | omega | rfl | trivial | (simp; done) | (trace_state; fail))
set_option maxRecDepth 100000 in
set_option maxHeartbeats 4000000 in
theorem ok36 (ns : List Pd) (x : List (List E)) (hx : x = ns.map pdr) (hxl : x.length ≤ 1048576) (hlen : ∀ d ∈ ns, d.Ex.length ≤ 1048576 ∧ d.Exs.length ≤ 1048576 ∧ ∀ e ∈ d.Exs, e.length ≤ 1048576) (ts : List Tb) (xt : List (List E)) (hxt : xt = ts.map tbr) (hsz : cTS ts ≤ 1048576) (w : Int) (ok : Bool) (hw : w = if planW ns ts < 0 then 0 else planW ns ts) (hok : ok = !decide (planW ns ts < 0)) :
    Plain Try.prog 36 [.agg [.e (.sl x)], .agg [.e (.sl xt)]] (.tup [.int w, .bool ok]) := okOf mixed p36 fun A P hA hP => (by
  have hxn : x.length = ns.length := by rw [hx]; simp
  obtain ⟨ze, hze⟩ : ∃ z : Int, z = x.length := ⟨_, rfl⟩
  have h36 := ok73 ts xt hxt hsz
  obtain ⟨db, hdb⟩ : ∃ b, b = dbOk ts := ⟨_, rfl⟩
  rw [← hdb] at h36
  have hbad : ¬ (dbOk ts = true ∧ ordOk ns = true) → w = 0 ∧ ok = false := fun h => by
    have : planW ns ts = -1 := if_neg h
    rw [this] at hw hok
    exact ⟨hw, hok⟩
  cases db
  case false =>
    obtain ⟨rfl, rfl⟩ := hbad (fun h => by rw [← hdb] at h; cases h.1)
    cbv
    repeat' first | with_reducible rfl | with_reducible refine And.intro ?_ ?_ | ((with_reducible intro hcc); first | (cases hcc; done) | skip) | ((with_reducible first | show goC _ _ _ _ _ _ _ _ | show goOps _ _ _ _ _ | show goD _ _ _ _ _ _); cbv) | ((with_reducible show okWr _ _ = _); rfl) | ((with_reducible first | refine callK_f hA hP h36 ?_ ?_ ?_); exact rfl; exact rfl; cbv) | (with_reducible refine hA.fin_tup _ _ _ ?_) | ((with_reducible show A.call _ _ _ _ false _ _ _ _); refine callK_no hA (.int 0) ?_; cbv) | ((with_reducible refine hA.len x _ _ _ _ fun z hz hb => ?_); (have e6 := hze.trans hz.symm); subst e6; cbv) | ((with_reducible first | refine hA.fin_pl _ _ _ ?_ | refine hA.len _ _ _ _ _ fun z hz hb => ?_ | refine hA.gb0 true _ ?_ | refine hA.gb0 false _ ?_ | refine hA.gb _ _ fun vb hvb => ?_); cbv) | (simp only [hA.lits]; cbv)
    all_goals try simp only [hA.ar, inR, n_cast, Int.ofNat_eq_natCast, Option.getD_some, Option.getD_none] at *
    all_goals first | omega | rfl | trivial | (simp; done) | (trace_state; fail)
  case true =>
  by_cases h1 : ze < 1
  · have e1 : A.lt ze 1 = true := by rw [hA.lt]; exact decide_eq_true h1
    obtain ⟨rfl, rfl⟩ := hbad (fun h => by
      have := h.2
      simp only [ordOk, Bool.and_eq_true, decide_eq_true_eq] at this
      omega)
    cbv
    repeat' first | with_reducible rfl | (simp only [e1]; cbv) | with_reducible refine And.intro ?_ ?_ | ((with_reducible intro hcc); first | (cases hcc; done) | skip) | ((with_reducible first | show goC _ _ _ _ _ _ _ _ | show goOps _ _ _ _ _ | show goD _ _ _ _ _ _); cbv) | ((with_reducible show okWr _ _ = _); rfl) | ((with_reducible first | refine callK_f hA hP h36 ?_ ?_ ?_); exact rfl; exact rfl; cbv) | (with_reducible refine hA.fin_tup _ _ _ ?_) | ((with_reducible show A.call _ _ _ _ false _ _ _ _); refine callK_no hA (.int 0) ?_; cbv) | ((with_reducible refine hA.len x _ _ _ _ fun z hz hb => ?_); (have e6 := hze.trans hz.symm); subst e6; cbv) | ((with_reducible first | refine hA.fin_pl _ _ _ ?_ | refine hA.len _ _ _ _ _ fun z hz hb => ?_ | refine hA.gb0 true _ ?_ | refine hA.gb0 false _ ?_ | refine hA.gb _ _ fun vb hvb => ?_); cbv) | (simp only [hA.lits]; cbv)
    all_goals try simp only [hA.ar, inR, n_cast, Int.ofNat_eq_natCast, Option.getD_some, Option.getD_none] at *
    all_goals first | omega | rfl | trivial | (simp; done) | (trace_state; fail)
  have e1 : A.lt ze 1 = false := by rw [hA.lt]; exact decide_eq_false h1
  by_cases h2 : 2000 < ze
  · have e2 : A.lt 2000 ze = true := by rw [hA.lt]; exact decide_eq_true h2
    obtain ⟨rfl, rfl⟩ := hbad (fun h => by
      have := h.2
      simp only [ordOk, Bool.and_eq_true, decide_eq_true_eq] at this
      omega)
    cbv
    repeat' first | with_reducible rfl | (simp only [e1, e2]; cbv) | with_reducible refine And.intro ?_ ?_ | ((with_reducible intro hcc); first | (cases hcc; done) | skip) | ((with_reducible first | show goC _ _ _ _ _ _ _ _ | show goOps _ _ _ _ _ | show goD _ _ _ _ _ _); cbv) | ((with_reducible show okWr _ _ = _); rfl) | ((with_reducible first | refine callK_f hA hP h36 ?_ ?_ ?_); exact rfl; exact rfl; cbv) | (with_reducible refine hA.fin_tup _ _ _ ?_) | ((with_reducible show A.call _ _ _ _ false _ _ _ _); refine callK_no hA (.int 0) ?_; cbv) | ((with_reducible refine hA.len x _ _ _ _ fun z hz hb => ?_); (have e6 := hze.trans hz.symm); subst e6; cbv) | ((with_reducible first | refine hA.fin_pl _ _ _ ?_ | refine hA.len _ _ _ _ _ fun z hz hb => ?_ | refine hA.gb0 true _ ?_ | refine hA.gb0 false _ ?_ | refine hA.gb _ _ fun vb hvb => ?_); cbv) | (simp only [hA.lits]; cbv)
    all_goals try simp only [hA.ar, inR, n_cast, Int.ofNat_eq_natCast, Option.getD_some, Option.getD_none] at *
    all_goals first | omega | rfl | trivial | (simp; done) | (trace_state; fail)
  have e2 : A.lt 2000 ze = false := by rw [hA.lt]; exact decide_eq_false h2
  obtain ⟨zl, hzl⟩ : ∃ z, z = A.sub ze 1 := ⟨_, rfl⟩
  have hzl2 : zl = (ns.length : Int) - 1 := by rw [hzl, hA.sub]; omega
  have h242 := ok81 ns x hx hxl ns.length zl (by omega) (by omega) (by omega)
  have hord := l3F_ord (ns := ns) (by omega)
  rw [← hzl2] at hord
  obtain ⟨fz, hfz⟩ : ∃ f, f = l3F ns ns.length zl := ⟨_, rfl⟩
  rw [← hfz] at h242 hord
  by_cases h3 : fz = 0
  case neg =>
    have e3 : A.eq fz 0 = false := by rw [hA.eq]; exact decide_eq_false h3
    obtain ⟨rfl, rfl⟩ := hbad (fun h => by rw [hord, decide_eq_false h3] at h; cases h.2)
    cbv
    repeat' first | with_reducible rfl | (simp only [← hzl, e1, e2, e3]; cbv) | with_reducible refine And.intro ?_ ?_ | ((with_reducible intro hcc); first | (cases hcc; done) | skip) | ((with_reducible first | show goC _ _ _ _ _ _ _ _ | show goOps _ _ _ _ _ | show goD _ _ _ _ _ _); cbv) | ((with_reducible show okWr _ _ = _); rfl) | ((with_reducible first | refine callK_f hA hP h36 ?_ ?_ ?_ | refine callK_f hA hP h242 ?_ ?_ ?_); exact rfl; exact rfl; cbv) | (with_reducible refine hA.fin_tup _ _ _ ?_) | ((with_reducible refine hA.len x _ _ _ _ fun z hz hb => ?_); (have e6 := hze.trans hz.symm); subst e6; cbv) | ((with_reducible first | refine hA.fin_pl _ _ _ ?_ | refine hA.len _ _ _ _ _ fun z hz hb => ?_ | refine hA.gb0 true _ ?_ | refine hA.gb0 false _ ?_ | refine hA.gb _ _ fun vb hvb => ?_); cbv) | (simp only [hA.lits]; cbv)
    all_goals try simp only [hA.ar, inR, n_cast, Int.ofNat_eq_natCast, Option.getD_some, Option.getD_none] at *
    all_goals first | omega | rfl | trivial | (simp; done) | (trace_state; fail)
  case pos =>
  have e3 : A.eq fz 0 = true := by rw [hA.eq]; exact decide_eq_true h3
  rw [decide_eq_true h3] at hord
  have hpw : planW ns ts = wS ns ts.length (colsOf ts) ns.length zl 0 := by rw [planW, if_pos ⟨hdb.symm, hord⟩, hzl2]
  have h243 := ok82 ns x hx hlen ts xt hxt (cT_in hdb.symm) (ord_in hord) ns.length zl 0 (by omega) (by omega) (by omega) (by omega) (by omega)
  rw [← hpw] at h243
  obtain ⟨pw, hp⟩ : ∃ p, p = planW ns ts := ⟨_, rfl⟩
  rw [← hp] at h243 hw hok
  clear hbad hpw hp hlen
  by_cases h4 : pw < 0
  · have e4 : A.lt pw 0 = true := by rw [hA.lt]; exact decide_eq_true h4
    rw [if_pos h4] at hw
    rw [decide_eq_true h4] at hok
    subst hw; subst hok
    cbv
    repeat' first | with_reducible rfl | (simp only [← hzl, e1, e2, e3, e4]; cbv) | with_reducible refine And.intro ?_ ?_ | ((with_reducible intro hcc); first | (cases hcc; done) | skip) | ((with_reducible first | show goC _ _ _ _ _ _ _ _ | show goOps _ _ _ _ _ | show goD _ _ _ _ _ _); cbv) | ((with_reducible show okWr _ _ = _); rfl) | ((with_reducible first | refine callK_f hA hP h36 ?_ ?_ ?_ | refine callK_f hA hP h242 ?_ ?_ ?_ | refine callK_f hA hP h243 ?_ ?_ ?_); exact rfl; exact rfl; cbv) | (with_reducible refine hA.fin_tup _ _ _ ?_) | ((with_reducible refine hA.len x _ _ _ _ fun z hz hb => ?_); (have e6 := hze.trans hz.symm); subst e6; cbv) | ((with_reducible first | refine hA.fin_pl _ _ _ ?_ | refine hA.len _ _ _ _ _ fun z hz hb => ?_ | refine hA.gb0 true _ ?_ | refine hA.gb0 false _ ?_ | refine hA.gb _ _ fun vb hvb => ?_); cbv) | (simp only [hA.lits]; cbv)
    all_goals try simp only [hA.ar, inR, n_cast, Int.ofNat_eq_natCast, Option.getD_some, Option.getD_none] at *
    all_goals first | omega | rfl | trivial | (simp; done) | (trace_state; fail)
  · have e4 : A.lt pw 0 = false := by rw [hA.lt]; exact decide_eq_false h4
    rw [if_neg h4] at hw
    rw [decide_eq_false h4] at hok
    subst hw; subst hok
    cbv
    repeat' first | with_reducible rfl | (simp only [← hzl, e1, e2, e3, e4]; cbv) | with_reducible refine And.intro ?_ ?_ | ((with_reducible intro hcc); first | (cases hcc; done) | skip) | ((with_reducible first | show goC _ _ _ _ _ _ _ _ | show goOps _ _ _ _ _ | show goD _ _ _ _ _ _); cbv) | ((with_reducible show okWr _ _ = _); rfl) | ((with_reducible first | refine callK_f hA hP h36 ?_ ?_ ?_ | refine callK_f hA hP h242 ?_ ?_ ?_ | refine callK_f hA hP h243 ?_ ?_ ?_); exact rfl; exact rfl; cbv) | (with_reducible refine hA.fin_tup _ _ _ ?_) | ((with_reducible refine hA.len x _ _ _ _ fun z hz hb => ?_); (have e6 := hze.trans hz.symm); subst e6; cbv) | ((with_reducible first | refine hA.fin_pl _ _ _ ?_ | refine hA.len _ _ _ _ _ fun z hz hb => ?_ | refine hA.gb0 true _ ?_ | refine hA.gb0 false _ ?_ | refine hA.gb _ _ fun vb hvb => ?_); cbv) | (simp only [hA.lits]; cbv)
    all_goals try simp only [hA.ar, inR, n_cast, Int.ofNat_eq_natCast, Option.getD_some, Option.getD_none] at *
    all_goals first | omega | rfl | trivial | (simp; done) | (trace_state; fail))
end Go.Proofs.Ytfplalbognalkaa.Ab
/- The work of plans: the specification's recursion and the program's loop do the same. -/
namespace Go.Proofs.Ytfplalbognalkaa.Ab
open Go
def capW (n : Int) : Int := if n > 2000 then 2001 else n
theorem capW_rng {n : Int} (h : 0 ≤ n) : 0 ≤ capW n ∧ capW n ≤ 2001 := by unfold capW; split <;> omega
theorem capW_id {n : Int} (h : n ≤ 2001) : capW n = n := by unfold capW; split <;> omega
theorem capW_min (n : Int) : min n 2001 = capW n := by unfold capW; split <;> omega
def rowsOf (ts : List Tb) (t : Int) : Int := (ts.getD t.toNat ([], 0, [])).2.2.length
theorem rowsOf_nn (ts : List Tb) (t : Int) : 0 ≤ rowsOf ts t := by unfold rowsOf; omega
/-- The bound on a node's rows, over those of its kids. -/
def szN (d : Pd) (f rl : Int → Int) : Int :=
  if d.K = 1 then 1 else if d.K = 2 then capW (rl d.T) else if d.K = 5 ∨ d.K = 6 then capW (f d.L * f d.R) else if d.K = 10 then capW (f d.L + f d.R) else f d.L
def szF (ns : List Pd) (rl : Int → Int) : Nat → Int → Int
  | 0, _ => 0
  | n + 1, i => szN (ns.getD i.toNat default) (szF ns rl n) rl
def sz (ns : List Pd) (rl : Int → Int) (i : Int) : Int := szF ns rl (i.toNat + 1) i
theorem szN_congr {d : Pd} {f g rl : Int → Int} (hK : 1 ≤ d.K ∧ d.K ≤ 10) (hl : hasL d.K = true → f d.L = g d.L) (hr : hasR d.K = true → f d.R = g d.R) : szN d f rl = szN d g rl := by
  unfold szN
  rcases (show d.K = 1 ∨ d.K = 2 ∨ d.K = 3 ∨ d.K = 4 ∨ d.K = 5 ∨ d.K = 6 ∨ d.K = 7 ∨ d.K = 8 ∨ d.K = 9 ∨ d.K = 10 by omega) with h | h | h | h | h | h | h | h | h | h
  all_goals
    rw [h] at hl hr
    simp only [h, Int.reduceEq, if_true, if_false, or_true, true_or, or_false, false_or]
  all_goals first
    | rfl
    | (rw [hl rfl]; done)
    | (rw [hl rfl, hr rfl]; done)
theorem szF_fuel {ns : List Pd} {rl : Int → Int} (hin : InP ns) : ∀ (n m : Nat) (i : Int), 0 ≤ i → i < ns.length → i < n → i < m → szF ns rl n i = szF ns rl m i
  | 0, _, _, _, _, h, _ => by omega
  | _, 0, _, _, _, _, h => by omega
  | n + 1, m + 1, i, h0, h1, h2, h3 => by
    obtain ⟨a, b, c⟩ := hin i h0 h1
    unfold szF
    exact szN_congr a (fun h => by have := b h; exact szF_fuel hin n m _ this.1 (by omega) (by omega) (by omega)) (fun h => by have := c h; exact szF_fuel hin n m _ this.1 (by omega) (by omega) (by omega))
theorem sz_eq {ns : List Pd} {rl : Int → Int} (hin : InP ns) {i : Int} (h0 : 0 ≤ i) (h1 : i < ns.length) : sz ns rl i = szN (ns.getD i.toNat default) (sz ns rl) rl := by
  obtain ⟨a, b, c⟩ := hin i h0 h1
  rw [sz, szF]
  exact szN_congr a (fun h => by have := b h; exact szF_fuel hin _ _ _ this.1 (by omega) (by omega) (by omega)) (fun h => by have := c h; exact szF_fuel hin _ _ _ this.1 (by omega) (by omega) (by omega))
theorem szN_rng {d : Pd} {f rl : Int → Int} (hK : 1 ≤ d.K ∧ d.K ≤ 10) (hrl : ∀ t, 0 ≤ rl t) (hl : hasL d.K = true → 0 ≤ f d.L ∧ f d.L ≤ 2001) (hr : hasR d.K = true → 0 ≤ f d.R ∧ f d.R ≤ 2001) : 0 ≤ szN d f rl ∧ szN d f rl ≤ 2001 := by
  unfold szN
  rcases (show d.K = 1 ∨ d.K = 2 ∨ d.K = 3 ∨ d.K = 4 ∨ d.K = 5 ∨ d.K = 6 ∨ d.K = 7 ∨ d.K = 8 ∨ d.K = 9 ∨ d.K = 10 by omega) with h | h | h | h | h | h | h | h | h | h
  all_goals
    rw [h] at hl hr
    simp only [h, Int.reduceEq, if_true, if_false, or_true, true_or, or_false, false_or]
  all_goals first
    | omega
    | exact capW_rng (hrl _)
    | exact hl rfl
    | (have a := hl rfl; have b := hr rfl; exact capW_rng (Int.mul_nonneg a.1 b.1))
    | (have a := hl rfl; have b := hr rfl; exact capW_rng (by omega))
theorem szF_rng {ns : List Pd} {rl : Int → Int} (hin : InP ns) (hrl : ∀ t, 0 ≤ rl t) : ∀ (n : Nat) (i : Int), 0 ≤ i → i < ns.length → 0 ≤ szF ns rl n i ∧ szF ns rl n i ≤ 2001
  | 0, i, _, _ => by simp [szF]
  | n + 1, i, h0, h1 => by
    obtain ⟨a, b, c⟩ := hin i h0 h1
    unfold szF
    exact szN_rng a hrl (fun h => by have := b h; exact szF_rng hin hrl n _ this.1 (by omega)) (fun h => by have := c h; exact szF_rng hin hrl n _ this.1 (by omega))
theorem sz_rng {ns : List Pd} {rl : Int → Int} (hin : InP ns) (hrl : ∀ t, 0 ≤ rl t) {i : Int} (h0 : 0 ≤ i) (h1 : i < ns.length) : 0 ≤ sz ns rl i ∧ sz ns rl i ≤ 2001 := szF_rng hin hrl _ _ h0 h1
/-- The greatest bound below and at a node. -/
def wkN (d : Pd) (s : Int → Int) (i c : Int) (f : Int → Int → Int) : Int :=
  max (max (capW (c * s i)) (if hasL d.K = true then f d.L c else 0)) (if hasR d.K = true then f d.R (if depK d.K = true then capW (c * s d.L) else c) else 0)
def wkF (ns : List Pd) (s : Int → Int) : Nat → Int → Int → Int
  | 0, _, _ => 0
  | n + 1, i, c => wkN (ns.getD i.toNat default) s i c (wkF ns s n)
def wk (ns : List Pd) (s : Int → Int) (i c : Int) : Int := wkF ns s (i.toNat + 1) i c
theorem wkF_fuel {ns : List Pd} {s : Int → Int} (hin : InP ns) : ∀ (n m : Nat) (i c : Int), 0 ≤ i → i < ns.length → i < n → i < m → wkF ns s n i c = wkF ns s m i c
  | 0, _, _, _, _, _, h, _ => by omega
  | _, 0, _, _, _, _, _, h => by omega
  | n + 1, m + 1, i, c, h0, h1, h2, h3 => by
    obtain ⟨a, hb, hc⟩ := hin i h0 h1
    unfold wkF wkN
    congr 1
    · congr 1
      split
      · rename_i h
        have := hb h
        exact wkF_fuel hin n m _ _ this.1 (by omega) (by omega) (by omega)
      · rfl
    · split
      · rename_i h
        have := hc h
        exact wkF_fuel hin n m _ _ this.1 (by omega) (by omega) (by omega)
      · rfl
theorem wk_eq {ns : List Pd} {s : Int → Int} (hin : InP ns) {i : Int} (c : Int) (h0 : 0 ≤ i) (h1 : i < ns.length) : wk ns s i c = wkN (ns.getD i.toNat default) s i c (wk ns s) := by
  obtain ⟨a, hb, hc⟩ := hin i h0 h1
  rw [wk, wkF, wkN, wkN]
  congr 1
  · congr 1
    split
    · rename_i h
      have := hb h
      exact wkF_fuel hin _ _ _ _ this.1 (by omega) (by omega) (by omega)
    · rfl
  · split
    · rename_i h
      have := hc h
      exact wkF_fuel hin _ _ _ _ this.1 (by omega) (by omega) (by omega)
    · rfl
theorem wk_nn {ns : List Pd} {s : Int → Int} {i c : Int} (hc : 0 ≤ c) (hs : 0 ≤ s i) : 0 ≤ wk ns s i c := by
  have := (capW_rng (Int.mul_nonneg hc hs)).1
  rw [wk, wkF, wkN]
  omega
/-- What stands open at a place of the program's loop: the greatest bound below the open roots. -/
def pnd (ns : List Pd) (s C : Int → Int) : Nat → Int → Int
  | 0, _ => 0
  | n + 1, i => if i < 0 then 0 else max (wk ns s i (C i)) (pnd ns s C n (fr ns i.toNat - 1))
theorem pnd_congr {ns : List Pd} {s C C' : Int → Int} : ∀ (n m : Nat) (i : Int), i < n → i < m → (∀ j, 0 ≤ j → j ≤ i → C j = C' j) → pnd ns s C n i = pnd ns s C' m i
  | 0, 0, _, _, _, _ => rfl
  | 0, m + 1, i, h, _, _ => by unfold pnd; rw [if_pos (by omega)]
  | n + 1, 0, i, _, h, _ => by unfold pnd; rw [if_pos (by omega)]
  | n + 1, m + 1, i, h1, h2, hC => by
    unfold pnd
    split
    · rfl
    · have := fr_le ns i.toNat
      rw [hC i (by omega) (by omega), pnd_congr n m (fr ns i.toNat - 1) (by omega) (by omega) fun j a b => hC j a (by omega)]
theorem pnd_neg {ns : List Pd} {s C : Int → Int} (n : Nat) {i : Int} (h : i < 0) : pnd ns s C n i = 0 := by
  cases n with
  | zero => rfl
  | succ n => unfold pnd; rw [if_pos h]
theorem fr_two {ns : List Pd} {i : Nat} (h : 0 ≤ fr ns i) : (hasL (ns.getD i default).K = false → hasR (ns.getD i default).K = false → fr ns i = i) ∧
    (hasL (ns.getD i default).K = true → hasR (ns.getD i default).K = false → (ns.getD i default).L = (i : Int) - 1 ∧ fr ns i = fr ns (i - 1)) ∧
    (hasL (ns.getD i default).K = true → hasR (ns.getD i default).K = true → (ns.getD i default).R = (i : Int) - 1 ∧ (ns.getD i default).L = fr ns (i - 1) - 1 ∧ fr ns i = fr ns (ns.getD i default).L.toNat) := by
  have e := fr_eq ns i
  split at e
  case isFalse => omega
  rename_i hf
  obtain ⟨_, h2, _⟩ := fr_kids h
  unfold kidsP at e h2
  refine ⟨fun a b => ?_, fun a b => ?_, fun a b => ?_⟩
  · rw [a, b] at e; simpa [chain] using e
  · rw [a, b] at e h2
    simp only [if_true, Bool.false_eq_true, if_false, List.nil_append, chain] at e
    split at e
    · omega
    · rename_i hq
      refine ⟨by omega, ?_⟩
      rw [e, show ((i : Int) - 1).toNat = i - 1 by omega]
  · rw [a, b] at e h2
    simp only [if_true, List.singleton_append, chain] at e
    split at e
    · omega
    · rename_i hq
      split at e
      · omega
      · rename_i hq2
        rw [show ((i : Int) - 1).toNat = i - 1 by omega] at e hq hq2
        have hL : (ns.getD i default).L = fr ns (i - 1) - 1 := by omega
        refine ⟨by omega, hL, ?_⟩
        rw [e, hL]
/-- One round of the program's loop. -/
theorem pnd_step {ns : List Pd} {s C C' : Int → Int} (hin : InP ns) (hall : ∀ j : Nat, j < ns.length → 0 ≤ fr ns j) (hs : ∀ j : Int, 0 ≤ j → j < ns.length → 0 ≤ s j) {i : Int} (h0 : 0 ≤ i) (h1 : i < ns.length) (hC : ∀ j : Int, 0 ≤ j → j < ns.length → 0 ≤ C j) (n m : Nat) (hn : i < n) (hm : i ≤ m)
    (hL : hasL (ns.getD i.toNat default).K = true → hasR (ns.getD i.toNat default).K = false → ∀ j, 0 ≤ j → j < i → C' j = if j = (ns.getD i.toNat default).L then C i else C j)
    (h00 : hasL (ns.getD i.toNat default).K = false → ∀ j, 0 ≤ j → j < i → C' j = C j)
    (hR : hasR (ns.getD i.toNat default).K = true → ∀ j, 0 ≤ j → j < i → C' j = if j = (ns.getD i.toNat default).R then (if depK (ns.getD i.toNat default).K = true then capW (C i * s (ns.getD i.toNat default).L) else C i) else if j = (ns.getD i.toNat default).L then C i else C j) (w : Int) :
    max w (pnd ns s C n i) = max (max w (capW (C i * s i))) (pnd ns s C' m (i - 1)) := by
  obtain ⟨n, rfl⟩ : ∃ k, n = k + 1 := ⟨n - 1, by omega⟩
  have hfi := hall i.toNat (by omega)
  obtain ⟨f0, f1, f2⟩ := fr_two hfi
  obtain ⟨hk, hkL, hkR⟩ := hin i h0 h1
  have hle := fr_le ns i.toNat
  have hcap := capW_rng (Int.mul_nonneg (hC i h0 h1) (hs i h0 h1))
  rw [pnd, if_neg (by omega), wk_eq hin _ h0 h1, wkN]
  have hLR : hasR (ns.getD i.toNat default).K = true → hasL (ns.getD i.toNat default).K = true := fun h => by simp [hasR] at h; simp [hasL]; omega
  cases hl : hasL (ns.getD i.toNat default).K
  · have hr : hasR (ns.getD i.toNat default).K = false := by
      cases e : hasR (ns.getD i.toNat default).K
      · rfl
      · rw [hLR e] at hl; cases hl
    rw [hr, f0 hl hr, show ((i.toNat : Nat) : Int) - 1 = i - 1 by omega, pnd_congr n m (i - 1) (by omega) (by omega) fun j a b => (h00 hl j a (by omega)).symm]
    simp only [Bool.false_eq_true, if_false]
    omega
  · cases hr : hasR (ns.getD i.toNat default).K
    · obtain ⟨g1, g2⟩ := f1 hl hr
      have hk := hkL hl
      simp only [if_true, Bool.false_eq_true, if_false]
      have e1 : i - 1 < ns.length := by omega
      obtain ⟨m, rfl⟩ : ∃ k, m = k + 1 := ⟨m - 1, by omega⟩
      have hCL := hL hl hr (i - 1) (by omega) (by omega)
      rw [if_pos (by omega)] at hCL
      have e2 : pnd ns s C' (m + 1) (i - 1) = max (wk ns s (i - 1) (C i)) (pnd ns s C n (fr ns i.toNat - 1)) := by
        rw [pnd, if_neg (by omega), hCL, show (i - 1).toNat = i.toNat - 1 by omega, ← g2]
        congr 1
        have := fr_le ns (i.toNat - 1)
        exact pnd_congr m n _ (by omega) (by omega) fun j a b => by rw [hL hl hr j a (by omega), if_neg (by omega)]
      rw [e2, show (ns.getD i.toNat default).L = i - 1 by omega]
      have := wk_nn (ns := ns) (s := s) (i := i - 1) (hC i h0 h1) (hs _ (by omega) e1)
      omega
    · obtain ⟨g1, g2, g3⟩ := f2 hl hr
      have hkl := hkL hl
      have hkr := hkR hr
      simp only [if_true]
      have hle1 := fr_le ns (i.toNat - 1)
      have hle2 := fr_le ns (ns.getD i.toNat default).L.toNat
      obtain ⟨m, rfl⟩ : ∃ k, m = k + 1 := ⟨m - 1, by omega⟩
      obtain ⟨m, rfl⟩ : ∃ k, m = k + 1 := ⟨m - 1, by omega⟩
      have hR' := hR hr
      obtain ⟨L, hLd⟩ : ∃ L, L = (ns.getD i.toNat default).L := ⟨_, rfl⟩
      obtain ⟨cR, hcR⟩ : ∃ c, c = if depK (ns.getD i.toNat default).K = true then capW (C i * s L) else C i := ⟨_, rfl⟩
      rw [← hLd] at g2 g3 hkl hR' hle2 ⊢
      rw [← hcR] at hR' ⊢
      have c1 : C' (i - 1) = cR := by rw [hR' (i - 1) (by omega) (by omega), if_pos (by omega)]
      have c2 : C' L = C i := by rw [hR' L (by omega) (by omega), if_neg (by omega), if_pos rfl]
      have e2 : pnd ns s C' (m + 1 + 1) (i - 1) = max (wk ns s (i - 1) cR) (max (wk ns s L (C i)) (pnd ns s C n (fr ns i.toNat - 1))) := by
        rw [pnd, if_neg (by omega), c1, show (i - 1).toNat = i.toNat - 1 by omega, ← g2]
        congr 1
        rw [pnd, if_neg (by omega), c2, ← g3]
        congr 1
        exact pnd_congr m n _ (by omega) (by omega) fun j a b => by rw [hR' j a (by omega), if_neg (by omega), if_neg (by omega)]
      rw [e2, show (ns.getD i.toNat default).R = i - 1 by omega]
      have hcR0 : 0 ≤ cR := by
        rw [hcR]
        split
        · exact (capW_rng (Int.mul_nonneg (hC i h0 h1) (hs L hkl.1 (by omega)))).1
        · exact hC i h0 h1
      have w1 := wk_nn (ns := ns) (s := s) (i := i - 1) hcR0 (hs _ (by omega) (by omega))
      have w2 := wk_nn (ns := ns) (s := s) (i := L) (hC i h0 h1) (hs _ hkl.1 (by omega))
      omega
end Go.Proofs.Ytfplalbognalkaa.Ab
/- The code of what PlanWork reaches. -/
namespace Go.Proofs.Ytfplalbognalkaa.Ab
open Go
def c8 : F := ⟨45, [(.tmp 4)], (.seq (.reg [⟨(some 2), none, (.box (.s 0))⟩, ⟨(some 3), none, (.box (.s 1))⟩, ⟨(some 4), none, (.mov (.c (.bool false)))⟩]) (.seq (.reg [⟨(some 5), none, (.mov (.c (.int 1048576)))⟩]) (.seq (.reg [⟨(some 10), none, (.load true 1 (.s 2))⟩, ⟨(some 11), none, (.mov (.s 5))⟩, ⟨(some 12), none, (.call 35 [(.s 10), (.s 11)])⟩, ⟨(some 5), none, (.mov (.s 12))⟩]) (.seq (.seq (.reg [⟨(some 13), none, (.mov (.s 5))⟩, ⟨(some 14), none, (.bin .lss (.s 13) (.c (.int 0)))⟩]) (.cond (.s 14) (.seq (.reg [⟨(some 4), none, (.mov (.c (.bool true)))⟩]) .ret) .skip)) (.seq (.reg [⟨(some 15), none, (.load true 1 (.s 3))⟩, ⟨(some 16), none, (.mov (.s 5))⟩, ⟨(some 17), none, (.call 28 [(.s 15), (.s 16)])⟩, ⟨(some 5), none, (.mov (.s 17))⟩]) (.seq (.seq (.reg [⟨(some 18), none, (.mov (.s 5))⟩, ⟨(some 19), none, (.bin .lss (.s 18) (.c (.int 0)))⟩]) (.cond (.s 19) (.seq (.reg [⟨(some 4), none, (.mov (.c (.bool true)))⟩]) .ret) .skip)) (.seq (.dreg [⟨⟨(some 20), none, (.load true 1 (.s 2))⟩, [], [2]⟩, ⟨⟨(some 21), none, (.call 37 [(.s 20)])⟩, [], [20]⟩, ⟨⟨(some 22), none, (.load true 1 (.s 3))⟩, [0, 1], [3]⟩, ⟨⟨(some 23), none, (.call 31 [(.s 22)])⟩, [], [22]⟩, ⟨⟨(some 24), none, (.call 40 [(.s 21), (.s 23)])⟩, [], [21, 23]⟩, ⟨⟨(some 6), none, (.mov (.s 24))⟩, [], [24]⟩]) (.seq (.reg [⟨(some 25), none, (.load true 1 (.s 2))⟩, ⟨(some 26), none, (.call 37 [(.s 25)])⟩, ⟨(some 7), none, (.alloc [(.e (.sl []))])⟩, ⟨none, none, (.store true 1 (.s 7) (.s 26))⟩]) (.seq (.reg [⟨(some 27), none, (.load true 1 (.s 3))⟩, ⟨(some 28), none, (.call 31 [(.s 27)])⟩, ⟨(some 8), none, (.alloc [(.e (.sl []))])⟩, ⟨none, none, (.store true 1 (.s 8) (.s 28))⟩]) (.seq (.reg [⟨(some 29), none, (.load true 1 (.s 7))⟩, ⟨(some 30), none, (.load true 1 (.s 8))⟩, ⟨(some 31), none, (.call 41 [(.s 29), (.s 30)])⟩, ⟨(some 9), none, (.mov (.s 31))⟩]) (.seq (.seq (.reg [⟨(some 32), none, (.mov (.s 9))⟩, ⟨(some 33), none, (.mov (.s 6))⟩, ⟨(some 34), none, (.bin .neq (.s 32) (.s 33))⟩]) (.cond (.s 34) (.seq (.reg [⟨(some 4), none, (.mov (.c (.bool false)))⟩]) .ret) .skip)) (.seq (.seq (.dreg [⟨⟨(some 35), none, (.load true 1 (.s 7))⟩, [], [7]⟩, ⟨⟨(some 36), none, (.load true 1 (.s 2))⟩, [0], [2]⟩, ⟨⟨(some 37), none, (.call 37 [(.s 36)])⟩, [0], [36]⟩, ⟨⟨(some 38), none, (.call 39 [(.s 35), (.s 37)])⟩, [], [35, 37]⟩, ⟨⟨(some 39), none, (.un .not (.s 38))⟩, [], [38]⟩]) (.cond (.s 39) (.seq (.reg [⟨(some 4), none, (.mov (.c (.bool false)))⟩]) .ret) .skip)) (.seq (.seq (.dreg [⟨⟨(some 40), none, (.load true 1 (.s 8))⟩, [], [8]⟩, ⟨⟨(some 41), none, (.load true 1 (.s 3))⟩, [0], [3]⟩, ⟨⟨(some 42), none, (.call 31 [(.s 41)])⟩, [0], [41]⟩, ⟨⟨(some 43), none, (.call 34 [(.s 40), (.s 42)])⟩, [], [40, 42]⟩, ⟨⟨(some 44), none, (.un .not (.s 43))⟩, [], [43]⟩]) (.cond (.s 44) (.seq (.reg [⟨(some 4), none, (.mov (.c (.bool false)))⟩]) .ret) .skip)) (.seq (.reg [⟨(some 4), none, (.mov (.c (.bool true)))⟩]) .ret))))))))))))))⟩
theorem p8 : prepF Try.prog 8 = some c8 := by kernel_rfl
def c40 : F := ⟨24, [(.tmp 4)], (.seq (.reg [⟨(some 2), none, (.box (.s 0))⟩, ⟨(some 3), none, (.box (.s 1))⟩, ⟨(some 4), none, (.mov (.c (.int 0)))⟩]) (.seq (.reg [⟨(some 8), none, (.load true 1 (.s 2))⟩, ⟨(some 9), none, (.load true 1 (.s 3))⟩, ⟨(some 10), none, (.call 36 [(.s 8), (.s 9)])⟩, ⟨(some 7), none, (.mov (.s 10))⟩, ⟨(some 11), none, (.ext 0 (.s 7))⟩, ⟨(some 12), none, (.ext 1 (.s 7))⟩, ⟨(some 5), none, (.mov (.s 11))⟩, ⟨(some 6), none, (.mov (.s 12))⟩]) (.seq (.seq (.reg [⟨(some 13), none, (.mov (.s 6))⟩, ⟨(some 14), none, (.un .not (.s 13))⟩]) (.cond (.s 14) (.seq (.reg [⟨(some 4), none, (.mov (.c (.int (-1))))⟩]) .ret) .skip)) (.seq (.dreg [⟨⟨(some 15), none, (.load true 1 (.s 2))⟩, [], [2]⟩, ⟨⟨(some 16), none, (.load true 1 (.s 2))⟩, [0], [2]⟩, ⟨⟨(some 17), none, (.load true 1 (.s 3))⟩, [0, 1], [3]⟩, ⟨⟨(some 18), none, (.call 87 [(.s 16), (.s 17)])⟩, [0], [16, 17]⟩, ⟨⟨(some 19), none, (.fadr 0 (.s 2))⟩, [0, 1, 2, 3], [2]⟩, ⟨⟨(some 20), none, (.load false 1 (.s 19))⟩, [0, 1, 2, 3], [19]⟩, ⟨⟨(some 21), none, (.lenl (.s 20))⟩, [0, 1, 2, 3], [20]⟩, ⟨⟨(some 22), none, (.bin .sub (.s 21) (.c (.int 1)))⟩, [0, 1, 2, 3], [21]⟩, ⟨⟨(some 23), none, (.call 86 [(.s 15), (.s 18), (.s 22), (.c (.int 1))])⟩, [], [15, 18, 22]⟩, ⟨⟨(some 4), none, (.mov (.s 23))⟩, [], [23]⟩]) .ret))))⟩
theorem p40 : prepF Try.prog 40 = some c40 := by kernel_rfl
def c41 : F := ⟨92, [(.tmp 4)], (.seq (.reg [⟨(some 2), none, (.box (.s 0))⟩, ⟨(some 3), none, (.box (.s 1))⟩, ⟨(some 4), none, (.mov (.c (.int 0)))⟩]) (.seq (.seq (.reg [⟨(some 10), none, (.load true 1 (.s 2))⟩, ⟨(some 11), none, (.load true 1 (.s 3))⟩, ⟨(some 12), none, (.call 84 [(.s 10), (.s 11)])⟩, ⟨(some 13), none, (.isnilI false (.s 12))⟩]) (.cond (.s 13) (.seq (.reg [⟨(some 4), none, (.mov (.c (.int (-1))))⟩]) .ret) .skip)) (.seq (.reg [⟨(some 14), none, (.load true 1 (.s 2))⟩, ⟨(some 15), none, (.load true 1 (.s 3))⟩, ⟨(some 16), none, (.call 88 [(.s 14), (.s 15)])⟩, ⟨(some 5), none, (.mov (.s 16))⟩]) (.seq (.reg [⟨(some 17), none, (.fadr 0 (.s 2))⟩, ⟨(some 18), none, (.load false 1 (.s 17))⟩, ⟨(some 19), none, (.lenl (.s 18))⟩, ⟨(some 20), none, (.mks [(.int 0)] (.s 19))⟩, ⟨(some 6), none, (.mov (.s 20))⟩]) (.seq (.reg [⟨(some 21), none, (.mov (.s 6))⟩, ⟨(some 22), none, (.mov (.s 6))⟩, ⟨(some 23), none, (.lenl (.s 22))⟩, ⟨(some 24), none, (.bin .sub (.s 23) (.c (.int 1)))⟩, ⟨(some 25), none, (.iadr none 1 (.s 21) (.s 24))⟩, ⟨none, none, (.store false 1 (.s 25) (.c (.int 1)))⟩]) (.seq (.reg [⟨(some 7), none, (.mov (.c (.int 0)))⟩]) (.seq (.seq (.reg [⟨(some 26), none, (.fadr 0 (.s 2))⟩, ⟨(some 27), none, (.load false 1 (.s 26))⟩, ⟨(some 28), none, (.lenl (.s 27))⟩, ⟨(some 29), none, (.bin .sub (.s 28) (.c (.int 1)))⟩, ⟨(some 8), none, (.mov (.s 29))⟩]) (.block 0 (.loop (.seq (.seq (.reg [⟨(some 30), none, (.mov (.s 8))⟩, ⟨(some 31), none, (.bin .geq (.s 30) (.c (.int 0)))⟩]) (.cond (.s 31) .skip (.exit 0))) (.seq (.block 1 (.seq (.reg [⟨(some 34), none, (.fadr 0 (.s 2))⟩, ⟨(some 35), none, (.load false 1 (.s 34))⟩, ⟨(some 36), none, (.mov (.s 8))⟩, ⟨(some 37), none, (.iadr none 7 (.s 35) (.s 36))⟩, ⟨(some 38), none, (.load true 7 (.s 37))⟩, ⟨(some 9), none, (.alloc [(.int 0), (.int 0), (.int 0), (.e (.sl [])), (.e (.sl [])), (.int 0), (.int 0)])⟩, ⟨none, none, (.store true 7 (.s 9) (.s 38))⟩]) (.seq (.dreg [⟨⟨(some 39), none, (.mov (.s 7))⟩, [], [7]⟩, ⟨⟨(some 40), none, (.mov (.s 6))⟩, [0], [6]⟩, ⟨⟨(some 41), none, (.mov (.s 8))⟩, [0, 1], [8]⟩, ⟨⟨(some 42), none, (.iadr none 1 (.s 40) (.s 41))⟩, [0], [40, 41]⟩, ⟨⟨(some 43), none, (.load false 1 (.s 42))⟩, [0], [42]⟩, ⟨⟨(some 44), none, (.mov (.s 5))⟩, [0, 1, 2, 3, 4], [5]⟩, ⟨⟨(some 45), none, (.mov (.s 8))⟩, [0, 1, 2, 3, 4, 5], [8]⟩, ⟨⟨(some 46), none, (.iadr none 1 (.s 44) (.s 45))⟩, [0, 1, 2, 3, 4], [44, 45]⟩, ⟨⟨(some 47), none, (.load false 1 (.s 46))⟩, [0, 1, 2, 3, 4], [46]⟩, ⟨⟨(some 48), none, (.bin .mul (.s 43) (.s 47))⟩, [0], [43, 47]⟩, ⟨⟨(some 49), none, (.call 89 [(.s 48)])⟩, [0], [48]⟩, ⟨⟨(some 50), none, (.mx (.s 39) (.s 49))⟩, [], [39, 49]⟩, ⟨⟨(some 7), none, (.mov (.s 50))⟩, [], [50]⟩]) (.seq (.seq (.reg [⟨(some 51), none, (.fadr 0 (.s 9))⟩, ⟨(some 52), none, (.load false 1 (.s 51))⟩, ⟨(some 53), none, (.call 90 [(.s 52)])⟩]) (.cond (.s 53) (.dreg [⟨⟨(some 54), none, (.mov (.s 6))⟩, [], [6]⟩, ⟨⟨(some 55), none, (.fadr 5 (.s 9))⟩, [0], [9]⟩, ⟨⟨(some 56), none, (.load false 1 (.s 55))⟩, [0], [55]⟩, ⟨⟨(some 57), none, (.mov (.s 6))⟩, [0, 1, 2], [6]⟩, ⟨⟨(some 58), none, (.mov (.s 8))⟩, [0, 1, 2, 3], [8]⟩, ⟨⟨(some 59), none, (.iadr none 1 (.s 57) (.s 58))⟩, [0, 1, 2], [57, 58]⟩, ⟨⟨(some 60), none, (.load false 1 (.s 59))⟩, [0, 1, 2], [59]⟩, ⟨⟨(some 61), none, (.iadr none 1 (.s 54) (.s 56))⟩, [], [54, 56]⟩, ⟨⟨none, none, (.store false 1 (.s 61) (.s 60))⟩, [], [61, 60]⟩]) .skip)) (.seq (.reg [⟨(some 62), none, (.fadr 0 (.s 9))⟩, ⟨(some 63), none, (.load false 1 (.s 62))⟩, ⟨(some 64), none, (.call 91 [(.s 63)])⟩]) (.cond (.s 64) (.seq (.dreg [⟨⟨(some 65), none, (.mov (.s 6))⟩, [], [6]⟩, ⟨⟨(some 66), none, (.fadr 6 (.s 9))⟩, [0], [9]⟩, ⟨⟨(some 67), none, (.load false 1 (.s 66))⟩, [0], [66]⟩, ⟨⟨(some 68), none, (.mov (.s 6))⟩, [0, 1, 2], [6]⟩, ⟨⟨(some 69), none, (.mov (.s 8))⟩, [0, 1, 2, 3], [8]⟩, ⟨⟨(some 70), none, (.iadr none 1 (.s 68) (.s 69))⟩, [0, 1, 2], [68, 69]⟩, ⟨⟨(some 71), none, (.load false 1 (.s 70))⟩, [0, 1, 2], [70]⟩, ⟨⟨(some 72), none, (.iadr none 1 (.s 65) (.s 67))⟩, [], [65, 67]⟩, ⟨⟨none, none, (.store false 1 (.s 72) (.s 71))⟩, [], [72, 71]⟩]) (.seq (.reg [⟨(some 73), none, (.fadr 0 (.s 9))⟩, ⟨(some 74), none, (.load false 1 (.s 73))⟩, ⟨(some 75), none, (.call 92 [(.s 74)])⟩]) (.cond (.s 75) (.dreg [⟨⟨(some 76), none, (.mov (.s 6))⟩, [], [6]⟩, ⟨⟨(some 77), none, (.fadr 6 (.s 9))⟩, [0], [9]⟩, ⟨⟨(some 78), none, (.load false 1 (.s 77))⟩, [0], [77]⟩, ⟨⟨(some 79), none, (.mov (.s 6))⟩, [0, 1, 2], [6]⟩, ⟨⟨(some 80), none, (.mov (.s 8))⟩, [0, 1, 2, 3], [8]⟩, ⟨⟨(some 81), none, (.iadr none 1 (.s 79) (.s 80))⟩, [0, 1, 2], [79, 80]⟩, ⟨⟨(some 82), none, (.load false 1 (.s 81))⟩, [0, 1, 2], [81]⟩, ⟨⟨(some 83), none, (.mov (.s 5))⟩, [0, 1, 2, 3, 4, 5, 6], [5]⟩, ⟨⟨(some 84), none, (.fadr 5 (.s 9))⟩, [0, 1, 2, 3, 4, 5, 6, 7], [9]⟩, ⟨⟨(some 85), none, (.load false 1 (.s 84))⟩, [0, 1, 2, 3, 4, 5, 6, 7], [84]⟩, ⟨⟨(some 86), none, (.iadr none 1 (.s 83) (.s 85))⟩, [0, 1, 2, 3, 4, 5, 6], [83, 85]⟩, ⟨⟨(some 87), none, (.load false 1 (.s 86))⟩, [0, 1, 2, 3, 4, 5, 6], [86]⟩, ⟨⟨(some 88), none, (.bin .mul (.s 82) (.s 87))⟩, [0, 1, 2], [82, 87]⟩, ⟨⟨(some 89), none, (.call 89 [(.s 88)])⟩, [0, 1, 2], [88]⟩, ⟨⟨(some 90), none, (.iadr none 1 (.s 76) (.s 78))⟩, [], [76, 78]⟩, ⟨⟨none, none, (.store false 1 (.s 90) (.s 89))⟩, [], [90, 89]⟩]) .skip))) .skip)))))) (.reg [⟨(some 32), none, (.mov (.s 8))⟩, ⟨(some 33), none, (.bin .sub (.s 32) (.c (.int 1)))⟩, ⟨(some 8), none, (.mov (.s 33))⟩])))))) (.seq (.reg [⟨(some 91), none, (.mov (.s 7))⟩, ⟨(some 4), none, (.mov (.s 91))⟩]) .ret))))))))⟩
theorem p41 : prepF Try.prog 41 = some c41 := by kernel_rfl
def c86 : F := ⟨75, [(.tmp 8)], (.seq (.reg [⟨(some 4), none, (.box (.s 0))⟩, ⟨(some 8), none, (.mov (.c (.int 0)))⟩]) (.seq (.reg [⟨(some 13), none, (.fadr 0 (.s 4))⟩, ⟨(some 14), none, (.load false 1 (.s 13))⟩, ⟨(some 15), none, (.mov (.s 2))⟩, ⟨(some 16), none, (.iadr none 7 (.s 14) (.s 15))⟩, ⟨(some 17), none, (.load true 7 (.s 16))⟩, ⟨(some 9), none, (.alloc [(.int 0), (.int 0), (.int 0), (.e (.sl [])), (.e (.sl [])), (.int 0), (.int 0)])⟩, ⟨none, none, (.store true 7 (.s 9) (.s 17))⟩]) (.seq (.reg [⟨(some 18), none, (.mov (.s 3))⟩, ⟨(some 19), none, (.mov (.s 1))⟩, ⟨(some 20), none, (.mov (.s 2))⟩, ⟨(some 21), none, (.iadr none 1 (.s 19) (.s 20))⟩, ⟨(some 22), none, (.load false 1 (.s 21))⟩, ⟨(some 23), none, (.bin .mul (.s 18) (.s 22))⟩, ⟨(some 24), none, (.call 149 [(.s 23)])⟩, ⟨(some 10), none, (.mov (.s 24))⟩]) (.seq (.seq (.reg [⟨(some 25), none, (.fadr 0 (.s 9))⟩, ⟨(some 26), none, (.load false 1 (.s 25))⟩, ⟨(some 27), none, (.call 141 [(.s 26)])⟩, ⟨(some 28), none, (.bin .gtr (.s 27) (.c (.int 0)))⟩]) (.cond (.s 28) (.seq (.reg [⟨(some 29), none, (.load true 1 (.s 4))⟩, ⟨(some 30), none, (.mov (.s 1))⟩, ⟨(some 31), none, (.fadr 5 (.s 9))⟩, ⟨(some 32), none, (.load false 1 (.s 31))⟩, ⟨(some 33), none, (.mov (.s 3))⟩, ⟨(some 34), none, (.call 86 [(.s 29), (.s 30), (.s 32), (.s 33)])⟩, ⟨(some 11), none, (.mov (.s 34))⟩]) (.seq (.reg [⟨(some 35), none, (.mov (.s 11))⟩, ⟨(some 36), none, (.mov (.s 10))⟩, ⟨(some 37), none, (.bin .gtr (.s 35) (.s 36))⟩]) (.cond (.s 37) (.reg [⟨(some 38), none, (.mov (.s 11))⟩, ⟨(some 10), none, (.mov (.s 38))⟩]) .skip))) .skip)) (.seq (.seq (.reg [⟨(some 39), none, (.fadr 0 (.s 9))⟩, ⟨(some 40), none, (.load false 1 (.s 39))⟩, ⟨(some 41), none, (.call 141 [(.s 40)])⟩, ⟨(some 42), none, (.bin .gtr (.s 41) (.c (.int 1)))⟩]) (.cond (.s 42) (.seq (.seq (.reg [⟨(some 43), none, (.fadr 0 (.s 9))⟩, ⟨(some 44), none, (.load false 1 (.s 43))⟩, ⟨(some 45), none, (.bin .eql (.s 44) (.c (.int 6)))⟩, ⟨(some 46), none, (.mov (.s 45))⟩, ⟨(some 47), (some (46, false)), (.fadr 0 (.s 9))⟩, ⟨(some 48), (some (46, false)), (.load false 1 (.s 47))⟩, ⟨(some 49), (some (46, false)), (.bin .eql (.s 48) (.c (.int 7)))⟩, ⟨(some 50), none, (.pick (.s 46) (.c (.bool true)) (.s 49))⟩, ⟨(some 51), none, (.mov (.s 50))⟩, ⟨(some 52), (some (51, false)), (.fadr 0 (.s 9))⟩, ⟨(some 53), (some (51, false)), (.load false 1 (.s 52))⟩, ⟨(some 54), (some (51, false)), (.bin .eql (.s 53) (.c (.int 8)))⟩, ⟨(some 55), none, (.pick (.s 51) (.c (.bool true)) (.s 54))⟩]) (.cond (.s 55) (.reg [⟨(some 56), none, (.mov (.s 3))⟩, ⟨(some 57), none, (.mov (.s 1))⟩, ⟨(some 58), none, (.fadr 5 (.s 9))⟩, ⟨(some 59), none, (.load false 1 (.s 58))⟩, ⟨(some 60), none, (.iadr none 1 (.s 57) (.s 59))⟩, ⟨(some 61), none, (.load false 1 (.s 60))⟩, ⟨(some 62), none, (.bin .mul (.s 56) (.s 61))⟩, ⟨(some 63), none, (.call 149 [(.s 62)])⟩, ⟨(some 3), none, (.mov (.s 63))⟩]) .skip)) (.seq (.reg [⟨(some 64), none, (.load true 1 (.s 4))⟩, ⟨(some 65), none, (.mov (.s 1))⟩, ⟨(some 66), none, (.fadr 6 (.s 9))⟩, ⟨(some 67), none, (.load false 1 (.s 66))⟩, ⟨(some 68), none, (.mov (.s 3))⟩, ⟨(some 69), none, (.call 86 [(.s 64), (.s 65), (.s 67), (.s 68)])⟩, ⟨(some 12), none, (.mov (.s 69))⟩]) (.seq (.reg [⟨(some 70), none, (.mov (.s 12))⟩, ⟨(some 71), none, (.mov (.s 10))⟩, ⟨(some 72), none, (.bin .gtr (.s 70) (.s 71))⟩]) (.cond (.s 72) (.reg [⟨(some 73), none, (.mov (.s 12))⟩, ⟨(some 10), none, (.mov (.s 73))⟩]) .skip)))) .skip)) (.seq (.reg [⟨(some 74), none, (.mov (.s 10))⟩, ⟨(some 8), none, (.mov (.s 74))⟩]) .ret))))))⟩
theorem p86 : prepF Try.prog 86 = some c86 := by kernel_rfl
def c87 : F := ⟨92, [(.tmp 4)], (.seq (.reg [⟨(some 2), none, (.box (.s 0))⟩, ⟨(some 3), none, (.box (.s 1))⟩, ⟨(some 4), none, (.mov (.c .zs))⟩]) (.seq (.reg [⟨(some 8), none, (.lit 1 [(.v (.int .i64 0))] 0 [])⟩, ⟨(some 5), none, (.mov (.s 8))⟩]) (.seq (.seq (.reg [⟨(some 6), none, (.mov (.c (.int 0)))⟩]) (.block 0 (.loop (.seq (.seq (.reg [⟨(some 9), none, (.mov (.s 6))⟩, ⟨(some 10), none, (.fadr 0 (.s 2))⟩, ⟨(some 11), none, (.load false 1 (.s 10))⟩, ⟨(some 12), none, (.lenl (.s 11))⟩, ⟨(some 13), none, (.bin .lss (.s 9) (.s 12))⟩]) (.cond (.s 13) .skip (.exit 0))) (.seq (.block 1 (.seq (.reg [⟨(some 16), none, (.fadr 0 (.s 2))⟩, ⟨(some 17), none, (.load false 1 (.s 16))⟩, ⟨(some 18), none, (.mov (.s 6))⟩, ⟨(some 19), none, (.iadr none 7 (.s 17) (.s 18))⟩, ⟨(some 20), none, (.load true 7 (.s 19))⟩, ⟨(some 7), none, (.alloc [(.int 0), (.int 0), (.int 0), (.e (.sl [])), (.e (.sl [])), (.int 0), (.int 0)])⟩, ⟨none, none, (.store true 7 (.s 7) (.s 20))⟩]) (.seq (.reg [⟨(some 21), none, (.fadr 0 (.s 7))⟩, ⟨(some 22), none, (.load false 1 (.s 21))⟩, ⟨(some 23), none, (.bin .eql (.s 22) (.c (.int 1)))⟩]) (.cond (.s 23) (.reg [⟨(some 24), none, (.mov (.s 5))⟩, ⟨(some 25), none, (.lit 1 [(.v (.int .i64 0))] 1 [(0, (.c (.int 1)))])⟩, ⟨(some 26), none, (.app 1 (.s 24) (.s 25))⟩, ⟨(some 5), none, (.mov (.s 26))⟩]) (.seq (.reg [⟨(some 27), none, (.fadr 0 (.s 7))⟩, ⟨(some 28), none, (.load false 1 (.s 27))⟩, ⟨(some 29), none, (.bin .eql (.s 28) (.c (.int 2)))⟩]) (.cond (.s 29) (.reg [⟨(some 30), none, (.mov (.s 5))⟩, ⟨(some 31), none, (.fadr 0 (.s 3))⟩, ⟨(some 32), none, (.load false 1 (.s 31))⟩, ⟨(some 33), none, (.fadr 1 (.s 7))⟩, ⟨(some 34), none, (.load false 1 (.s 33))⟩, ⟨(some 35), none, (.iadr none 3 (.s 32) (.s 34))⟩, ⟨(some 36), none, (.fadr 2 (.s 35))⟩, ⟨(some 37), none, (.load false 1 (.s 36))⟩, ⟨(some 38), none, (.lenl (.s 37))⟩, ⟨(some 39), none, (.call 149 [(.s 38)])⟩, ⟨(some 40), none, (.lit 1 [(.v (.int .i64 0))] 1 [(0, (.s 39))])⟩, ⟨(some 41), none, (.app 1 (.s 30) (.s 40))⟩, ⟨(some 5), none, (.mov (.s 41))⟩]) (.seq (.reg [⟨(some 42), none, (.fadr 0 (.s 7))⟩, ⟨(some 43), none, (.load false 1 (.s 42))⟩, ⟨(some 44), none, (.bin .eql (.s 43) (.c (.int 5)))⟩, ⟨(some 45), none, (.mov (.s 44))⟩, ⟨(some 46), (some (45, false)), (.fadr 0 (.s 7))⟩, ⟨(some 47), (some (45, false)), (.load false 1 (.s 46))⟩, ⟨(some 48), (some (45, false)), (.bin .eql (.s 47) (.c (.int 6)))⟩, ⟨(some 49), none, (.pick (.s 45) (.c (.bool true)) (.s 48))⟩]) (.cond (.s 49) (.dreg [⟨⟨(some 50), none, (.mov (.s 5))⟩, [], [5]⟩, ⟨⟨(some 51), none, (.mov (.s 5))⟩, [0], [5]⟩, ⟨⟨(some 52), none, (.fadr 5 (.s 7))⟩, [0, 1], [7]⟩, ⟨⟨(some 53), none, (.load false 1 (.s 52))⟩, [0, 1], [52]⟩, ⟨⟨(some 54), none, (.iadr none 1 (.s 51) (.s 53))⟩, [0], [51, 53]⟩, ⟨⟨(some 55), none, (.load false 1 (.s 54))⟩, [0], [54]⟩, ⟨⟨(some 56), none, (.mov (.s 5))⟩, [0, 1, 2, 3, 4, 5], [5]⟩, ⟨⟨(some 57), none, (.fadr 6 (.s 7))⟩, [0, 1, 2, 3, 4, 5, 6], [7]⟩, ⟨⟨(some 58), none, (.load false 1 (.s 57))⟩, [0, 1, 2, 3, 4, 5, 6], [57]⟩, ⟨⟨(some 59), none, (.iadr none 1 (.s 56) (.s 58))⟩, [0, 1, 2, 3, 4, 5], [56, 58]⟩, ⟨⟨(some 60), none, (.load false 1 (.s 59))⟩, [0, 1, 2, 3, 4, 5], [59]⟩, ⟨⟨(some 61), none, (.bin .mul (.s 55) (.s 60))⟩, [0], [55, 60]⟩, ⟨⟨(some 62), none, (.call 149 [(.s 61)])⟩, [0], [61]⟩, ⟨⟨(some 63), none, (.lit 1 [(.v (.int .i64 0))] 1 [(0, (.s 62))])⟩, [0], [62]⟩, ⟨⟨(some 64), none, (.app 1 (.s 50) (.s 63))⟩, [], [50, 63]⟩, ⟨⟨(some 5), none, (.mov (.s 64))⟩, [], [64]⟩]) (.seq (.reg [⟨(some 65), none, (.fadr 0 (.s 7))⟩, ⟨(some 66), none, (.load false 1 (.s 65))⟩, ⟨(some 67), none, (.bin .eql (.s 66) (.c (.int 10)))⟩]) (.cond (.s 67) (.dreg [⟨⟨(some 68), none, (.mov (.s 5))⟩, [], [5]⟩, ⟨⟨(some 69), none, (.mov (.s 5))⟩, [0], [5]⟩, ⟨⟨(some 70), none, (.fadr 5 (.s 7))⟩, [0, 1], [7]⟩, ⟨⟨(some 71), none, (.load false 1 (.s 70))⟩, [0, 1], [70]⟩, ⟨⟨(some 72), none, (.iadr none 1 (.s 69) (.s 71))⟩, [0], [69, 71]⟩, ⟨⟨(some 73), none, (.load false 1 (.s 72))⟩, [0], [72]⟩, ⟨⟨(some 74), none, (.mov (.s 5))⟩, [0, 1, 2, 3, 4, 5], [5]⟩, ⟨⟨(some 75), none, (.fadr 6 (.s 7))⟩, [0, 1, 2, 3, 4, 5, 6], [7]⟩, ⟨⟨(some 76), none, (.load false 1 (.s 75))⟩, [0, 1, 2, 3, 4, 5, 6], [75]⟩, ⟨⟨(some 77), none, (.iadr none 1 (.s 74) (.s 76))⟩, [0, 1, 2, 3, 4, 5], [74, 76]⟩, ⟨⟨(some 78), none, (.load false 1 (.s 77))⟩, [0, 1, 2, 3, 4, 5], [77]⟩, ⟨⟨(some 79), none, (.bin .add (.s 73) (.s 78))⟩, [0], [73, 78]⟩, ⟨⟨(some 80), none, (.call 149 [(.s 79)])⟩, [0], [79]⟩, ⟨⟨(some 81), none, (.lit 1 [(.v (.int .i64 0))] 1 [(0, (.s 80))])⟩, [0], [80]⟩, ⟨⟨(some 82), none, (.app 1 (.s 68) (.s 81))⟩, [], [68, 81]⟩, ⟨⟨(some 5), none, (.mov (.s 82))⟩, [], [82]⟩]) (.reg [⟨(some 83), none, (.mov (.s 5))⟩, ⟨(some 84), none, (.mov (.s 5))⟩, ⟨(some 85), none, (.fadr 5 (.s 7))⟩, ⟨(some 86), none, (.load false 1 (.s 85))⟩, ⟨(some 87), none, (.iadr none 1 (.s 84) (.s 86))⟩, ⟨(some 88), none, (.load false 1 (.s 87))⟩, ⟨(some 89), none, (.lit 1 [(.v (.int .i64 0))] 1 [(0, (.s 88))])⟩, ⟨(some 90), none, (.app 1 (.s 83) (.s 89))⟩, ⟨(some 5), none, (.mov (.s 90))⟩]))))))))))) (.reg [⟨(some 14), none, (.mov (.s 6))⟩, ⟨(some 15), none, (.bin .add (.s 14) (.c (.int 1)))⟩, ⟨(some 6), none, (.mov (.s 15))⟩])))))) (.seq (.reg [⟨(some 91), none, (.mov (.s 5))⟩, ⟨(some 4), none, (.mov (.s 91))⟩]) .ret))))⟩
theorem p87 : prepF Try.prog 87 = some c87 := by kernel_rfl
def c88 : F := ⟨91, [(.tmp 4)], (.seq (.reg [⟨(some 2), none, (.box (.s 0))⟩, ⟨(some 3), none, (.box (.s 1))⟩, ⟨(some 4), none, (.mov (.c .zs))⟩]) (.seq (.reg [⟨(some 8), none, (.fadr 0 (.s 2))⟩, ⟨(some 9), none, (.load false 1 (.s 8))⟩, ⟨(some 10), none, (.lenl (.s 9))⟩, ⟨(some 11), none, (.mks [(.int 0)] (.s 10))⟩, ⟨(some 5), none, (.mov (.s 11))⟩]) (.seq (.seq (.reg [⟨(some 12), none, (.fadr 0 (.s 2))⟩, ⟨(some 13), none, (.load false 1 (.s 12))⟩, ⟨(some 14), none, (.lenl (.s 13))⟩, ⟨(some 15), none, (.mov (.c (.int 0)))⟩]) (.block 0 (.loop (.seq (.reg [⟨(some 16), none, (.bin .lss (.s 15) (.s 14))⟩]) (.seq (.cond (.s 16) .skip (.exit 0)) (.seq (.block 1 (.seq (.reg [⟨(some 17), none, (.mov (.s 15))⟩, ⟨(some 18), none, (.iadr none 7 (.s 13) (.s 15))⟩, ⟨(some 19), none, (.load true 7 (.s 18))⟩, ⟨(some 7), none, (.alloc [(.int 0), (.int 0), (.int 0), (.e (.sl [])), (.e (.sl [])), (.int 0), (.int 0)])⟩, ⟨(some 6), none, (.mov (.s 17))⟩, ⟨none, none, (.store true 7 (.s 7) (.s 19))⟩]) (.seq (.seq (.reg [⟨(some 20), none, (.fadr 0 (.s 7))⟩, ⟨(some 21), none, (.load false 1 (.s 20))⟩]) (.block 2 (.seq (.reg [⟨(some 31), none, (.bin .eql (.s 21) (.c (.int 1)))⟩, ⟨(some 30), none, (.mov (.s 31))⟩]) (.cond (.s 30) (.reg [⟨(some 32), none, (.mov (.s 5))⟩, ⟨(some 33), none, (.mov (.s 6))⟩, ⟨(some 34), none, (.iadr none 1 (.s 32) (.s 33))⟩, ⟨none, none, (.store false 1 (.s 34) (.c (.int 1)))⟩]) (.seq (.reg [⟨(some 36), none, (.bin .eql (.s 21) (.c (.int 2)))⟩, ⟨(some 35), none, (.mov (.s 36))⟩]) (.cond (.s 35) (.reg [⟨(some 37), none, (.mov (.s 5))⟩, ⟨(some 38), none, (.mov (.s 6))⟩, ⟨(some 39), none, (.fadr 0 (.s 3))⟩, ⟨(some 40), none, (.load false 1 (.s 39))⟩, ⟨(some 41), none, (.fadr 1 (.s 7))⟩, ⟨(some 42), none, (.load false 1 (.s 41))⟩, ⟨(some 43), none, (.iadr none 3 (.s 40) (.s 42))⟩, ⟨(some 44), none, (.fadr 2 (.s 43))⟩, ⟨(some 45), none, (.load false 1 (.s 44))⟩, ⟨(some 46), none, (.lenl (.s 45))⟩, ⟨(some 47), none, (.iadr none 1 (.s 37) (.s 38))⟩, ⟨none, none, (.store false 1 (.s 47) (.s 46))⟩]) (.seq (.seq (.reg [⟨(some 49), none, (.bin .eql (.s 21) (.c (.int 5)))⟩, ⟨(some 48), none, (.mov (.s 49))⟩]) (.cond (.s 48) .skip (.reg [⟨(some 50), none, (.bin .eql (.s 21) (.c (.int 6)))⟩, ⟨(some 48), none, (.mov (.s 50))⟩]))) (.cond (.s 48) (.dreg [⟨⟨(some 51), none, (.mov (.s 5))⟩, [], [5]⟩, ⟨⟨(some 52), none, (.mov (.s 6))⟩, [0], [6]⟩, ⟨⟨(some 53), none, (.mov (.s 5))⟩, [0, 1], [5]⟩, ⟨⟨(some 54), none, (.fadr 5 (.s 7))⟩, [0, 1, 2], [7]⟩, ⟨⟨(some 55), none, (.load false 1 (.s 54))⟩, [0, 1, 2], [54]⟩, ⟨⟨(some 56), none, (.iadr none 1 (.s 53) (.s 55))⟩, [0, 1], [53, 55]⟩, ⟨⟨(some 57), none, (.load false 1 (.s 56))⟩, [0, 1], [56]⟩, ⟨⟨(some 58), none, (.mov (.s 5))⟩, [0, 1, 2, 3, 4, 5, 6], [5]⟩, ⟨⟨(some 59), none, (.fadr 6 (.s 7))⟩, [0, 1, 2, 3, 4, 5, 6, 7], [7]⟩, ⟨⟨(some 60), none, (.load false 1 (.s 59))⟩, [0, 1, 2, 3, 4, 5, 6, 7], [59]⟩, ⟨⟨(some 61), none, (.iadr none 1 (.s 58) (.s 60))⟩, [0, 1, 2, 3, 4, 5, 6], [58, 60]⟩, ⟨⟨(some 62), none, (.load false 1 (.s 61))⟩, [0, 1, 2, 3, 4, 5, 6], [61]⟩, ⟨⟨(some 63), none, (.bin .mul (.s 57) (.s 62))⟩, [0, 1], [57, 62]⟩, ⟨⟨(some 64), none, (.iadr none 1 (.s 51) (.s 52))⟩, [], [51, 52]⟩, ⟨⟨none, none, (.store false 1 (.s 64) (.s 63))⟩, [], [64, 63]⟩]) (.seq (.reg [⟨(some 66), none, (.bin .eql (.s 21) (.c (.int 10)))⟩, ⟨(some 65), none, (.mov (.s 66))⟩]) (.cond (.s 65) (.dreg [⟨⟨(some 67), none, (.mov (.s 5))⟩, [], [5]⟩, ⟨⟨(some 68), none, (.mov (.s 6))⟩, [0], [6]⟩, ⟨⟨(some 69), none, (.mov (.s 5))⟩, [0, 1], [5]⟩, ⟨⟨(some 70), none, (.fadr 5 (.s 7))⟩, [0, 1, 2], [7]⟩, ⟨⟨(some 71), none, (.load false 1 (.s 70))⟩, [0, 1, 2], [70]⟩, ⟨⟨(some 72), none, (.iadr none 1 (.s 69) (.s 71))⟩, [0, 1], [69, 71]⟩, ⟨⟨(some 73), none, (.load false 1 (.s 72))⟩, [0, 1], [72]⟩, ⟨⟨(some 74), none, (.mov (.s 5))⟩, [0, 1, 2, 3, 4, 5, 6], [5]⟩, ⟨⟨(some 75), none, (.fadr 6 (.s 7))⟩, [0, 1, 2, 3, 4, 5, 6, 7], [7]⟩, ⟨⟨(some 76), none, (.load false 1 (.s 75))⟩, [0, 1, 2, 3, 4, 5, 6, 7], [75]⟩, ⟨⟨(some 77), none, (.iadr none 1 (.s 74) (.s 76))⟩, [0, 1, 2, 3, 4, 5, 6], [74, 76]⟩, ⟨⟨(some 78), none, (.load false 1 (.s 77))⟩, [0, 1, 2, 3, 4, 5, 6], [77]⟩, ⟨⟨(some 79), none, (.bin .add (.s 73) (.s 78))⟩, [0, 1], [73, 78]⟩, ⟨⟨(some 80), none, (.iadr none 1 (.s 67) (.s 68))⟩, [], [67, 68]⟩, ⟨⟨none, none, (.store false 1 (.s 80) (.s 79))⟩, [], [80, 79]⟩]) (.reg [⟨(some 22), none, (.mov (.s 5))⟩, ⟨(some 23), none, (.mov (.s 6))⟩, ⟨(some 24), none, (.mov (.s 5))⟩, ⟨(some 25), none, (.fadr 5 (.s 7))⟩, ⟨(some 26), none, (.load false 1 (.s 25))⟩, ⟨(some 27), none, (.iadr none 1 (.s 24) (.s 26))⟩, ⟨(some 28), none, (.load false 1 (.s 27))⟩, ⟨(some 29), none, (.iadr none 1 (.s 22) (.s 23))⟩, ⟨none, none, (.store false 1 (.s 29) (.s 28))⟩]))))))))))) (.reg [⟨(some 81), none, (.mov (.s 5))⟩, ⟨(some 82), none, (.mov (.s 6))⟩, ⟨(some 83), none, (.mov (.s 5))⟩, ⟨(some 84), none, (.mov (.s 6))⟩, ⟨(some 85), none, (.iadr none 1 (.s 83) (.s 84))⟩, ⟨(some 86), none, (.load false 1 (.s 85))⟩, ⟨(some 87), none, (.call 89 [(.s 86)])⟩, ⟨(some 88), none, (.iadr none 1 (.s 81) (.s 82))⟩, ⟨none, none, (.store false 1 (.s 88) (.s 87))⟩])))) (.reg [⟨(some 89), none, (.bin .add (.s 15) (.c (.int 1)))⟩, ⟨(some 15), none, (.mov (.s 89))⟩]))))))) (.seq (.reg [⟨(some 90), none, (.mov (.s 5))⟩, ⟨(some 4), none, (.mov (.s 90))⟩]) .ret))))⟩
theorem p88 : prepF Try.prog 88 = some c88 := by kernel_rfl
def c89 : F := ⟨5, [(.tmp 2)], (.seq (.reg [⟨(some 2), none, (.mov (.c (.int 0)))⟩]) (.seq (.reg [⟨(some 3), none, (.mov (.s 0))⟩, ⟨(some 4), none, (.mn (.s 3) (.c (.int 2001)))⟩, ⟨(some 2), none, (.mov (.s 4))⟩]) .ret))⟩
theorem p89 : prepF Try.prog 89 = some c89 := by kernel_rfl
def c149 : F := ⟨6, [(.tmp 2)], (.seq (.reg [⟨(some 2), none, (.mov (.c (.int 0)))⟩]) (.seq (.seq (.reg [⟨(some 3), none, (.mov (.s 0))⟩, ⟨(some 4), none, (.bin .gtr (.s 3) (.c (.int 2000)))⟩]) (.cond (.s 4) (.seq (.reg [⟨(some 2), none, (.mov (.c (.int 2001)))⟩]) .ret) .skip)) (.seq (.reg [⟨(some 5), none, (.mov (.s 0))⟩, ⟨(some 2), none, (.mov (.s 5))⟩]) .ret)))⟩
theorem p149 : prepF Try.prog 149 = some c149 := by kernel_rfl
end Go.Proofs.Ytfplalbognalkaa.Ab
/- The work of plans: the bounds on the rows of all nodes, by both. -/
namespace Go.Proofs.Ytfplalbognalkaa.Ab
open Go
theorem wS_used {ns : List Pd} {nt : Int} {cols : Int → Int} : ∀ (n i : Nat) (env : Int), i < n → 0 ≤ fr ns i → 0 ≤ wS ns nt cols n i env → ∀ j : Nat, fr ns i ≤ j → j ≤ i → usedS (ns.getD j default) nt = true
  | 0, _, _, h, _, _, _, _, _ => by omega
  | n + 1, i, env, hn, hf, hw, j, h1, h2 => by
    simp only [wS, Int.toNat_natCast] at hw
    obtain ⟨_, q1, q2⟩ := fr_kids hf
    have key : ∀ (u : Bool) (l r v : Int), (v = if u = false then -1 else if l < 0 then -1 else if r < 0 then -1 else ndS (ns.getD i default) cols env l r) → 0 ≤ v → u = true ∧ ¬ l < 0 ∧ ¬ r < 0 := fun u l r v e h => by
      subst e
      split at h
      · omega
      · rename_i hu
        split at h
        · omega
        · rename_i hl
          split at h
          · omega
          · rename_i hr
            exact ⟨by simpa using hu, hl, hr⟩
    obtain ⟨hu, hl, hr⟩ := key _ _ _ _ rfl hw
    rcases Nat.lt_or_ge j i with hji | hji
    · obtain ⟨k, k1, k2, k3⟩ := q2 j h1 (by omega)
      obtain ⟨a, b, c⟩ := q1 k k1
      have hk : (hasL (ns.getD i default).K = true ∧ k = (ns.getD i default).L) ∨ (hasR (ns.getD i default).K = true ∧ k = (ns.getD i default).R) := by
        unfold kidsP at k1
        rcases List.mem_append.1 k1 with h | h
        · split at h
          · rename_i e; exact .inr ⟨e, List.mem_singleton.1 h⟩
          · cases h
        · split at h
          · rename_i e; exact .inl ⟨e, List.mem_singleton.1 h⟩
          · cases h
      rcases hk with ⟨e1, e2⟩ | ⟨e1, e2⟩
      · rw [if_pos e1, ← e2] at hl
        exact wS_used n k.toNat env (by omega) c (by rw [show ((k.toNat : Nat) : Int) = k by omega]; exact Int.not_lt.1 hl) j k2 (by omega)
      · rw [if_pos e1, ← e2] at hr
        exact wS_used n k.toNat _ (by omega) c (by rw [show ((k.toNat : Nat) : Int) = k by omega]; exact Int.not_lt.1 hr) j k2 (by omega)
    · have : j = i := by omega
      subst this
      exact hu
/-- In a valid plan scans name tables. -/
theorem plan_scans {ns : List Pd} {ts : List Tb} (h : 0 ≤ planW ns ts) : (dbOk ts = true ∧ ordOk ns = true) ∧ ∀ j : Int, 0 ≤ j → j < ns.length → (ns.getD j.toNat default).K = 2 → 0 ≤ (ns.getD j.toNat default).T ∧ (ns.getD j.toNat default).T < ts.length := by
  unfold planW at h
  split at h
  · rename_i hb
    refine ⟨hb, fun j h0 h1 hk => ?_⟩
    have ho := hb.2
    simp only [ordOk, Bool.and_eq_true, decide_eq_true_eq] at ho
    rw [show (ns.length : Int) - 1 = ((ns.length - 1 : Nat) : Int) by omega] at h
    have := wS_used ns.length (ns.length - 1) 0 (by omega) (by omega) h j.toNat (by omega) (by omega)
    obtain ⟨d, hd⟩ : ∃ d, d = ns.getD j.toNat default := ⟨_, rfl⟩
    rw [← hd] at this hk ⊢
    simp only [usedS, hk] at this
    simp at this
    omega
  · omega
theorem ok149 (n : Int) : Plain Try.prog 149 [.int n] (.int (capW n)) := okOf mixed p149 fun A P hA hP => (by
  obtain ⟨r, hr⟩ : ∃ r, r = capW n := ⟨_, rfl⟩
  rw [← hr]
  unfold capW at hr
  by_cases h : 2000 < n
  · have e : A.lt 2000 n = true := by rw [hA.lt]; exact decide_eq_true h
    rw [if_pos h] at hr
    subst hr
    cbv
    repeat' first | with_reducible rfl | (simp only [e]; cbv) | with_reducible refine And.intro ?_ ?_ | ((with_reducible intro hcc); first | (cases hcc; done) | skip) | ((with_reducible first | show goC _ _ _ _ _ _ _ _ | show goOps _ _ _ _ _ | show goD _ _ _ _ _ _); cbv) | ((with_reducible show okWr _ _ = _); rfl) | ((with_reducible first | refine hA.fin_pl _ _ _ ?_); cbv) | (simp only [hA.lits]; cbv)
    all_goals try simp only [hA.ar, inR, n_cast, Int.ofNat_eq_natCast, Option.getD_some, Option.getD_none] at *
    all_goals first | rfl | trivial | (trace_state; fail)
  · have e : A.lt 2000 n = false := by rw [hA.lt]; exact decide_eq_false h
    rw [if_neg h] at hr
    subst hr
    cbv
    repeat' first | with_reducible rfl | (simp only [e]; cbv) | with_reducible refine And.intro ?_ ?_ | ((with_reducible intro hcc); first | (cases hcc; done) | skip) | ((with_reducible first | show goC _ _ _ _ _ _ _ _ | show goOps _ _ _ _ _ | show goD _ _ _ _ _ _); cbv) | ((with_reducible show okWr _ _ = _); rfl) | ((with_reducible first | refine hA.fin_pl _ _ _ ?_); cbv) | (simp only [hA.lits]; cbv)
    all_goals try simp only [hA.ar, inR, n_cast, Int.ofNat_eq_natCast, Option.getD_some, Option.getD_none] at *
    all_goals first | rfl | trivial | (trace_state; fail))
theorem ok89 (n : Int) : Plain Try.prog 89 [.int n] (.int (capW n)) := okOf mixed p89 fun A P hA hP => (by
  obtain ⟨r, hr⟩ : ∃ r, r = capW n := ⟨_, rfl⟩
  rw [← hr]
  have e : A.mn n 2001 = r := by rw [hA.mn, capW_min, hr]
  cbv
  repeat' first | with_reducible rfl | (simp only [e]; cbv) | with_reducible refine And.intro ?_ ?_ | ((with_reducible intro hcc); first | (cases hcc; done) | skip) | ((with_reducible first | show goC _ _ _ _ _ _ _ _ | show goOps _ _ _ _ _ | show goD _ _ _ _ _ _); cbv) | ((with_reducible show okWr _ _ = _); rfl) | ((with_reducible first | refine hA.fin_pl _ _ _ ?_); cbv) | (simp only [hA.lits]; cbv)
  all_goals try simp only [hA.ar, inR, n_cast, Int.ofNat_eq_natCast, Option.getD_some, Option.getD_none] at *
  all_goals first | rfl | trivial | (trace_state; fail))
/-- The bounds of all nodes. -/
def szL (ns : List Pd) (rl : Int → Int) : List Int := (List.range ns.length).map fun j : Nat => sz ns rl (j : Int)
theorem szL_len (ns : List Pd) (rl : Int → Int) : (szL ns rl).length = ns.length := by simp [szL]
theorem szL_get {ns : List Pd} {rl : Int → Int} {j : Int} (h0 : 0 ≤ j) (h1 : j < ns.length) : (szL ns rl)[j.toNat]? = some (sz ns rl j) := by
  rw [szL, List.getElem?_map, List.getElem?_range (by omega)]
  simp only [Option.map_some]
  rw [show ((j.toNat : Nat) : Int) = j by omega]
theorem szL_ext {ns : List Pd} {rl : Int → Int} {ws : List Int} (hl : ws.length = ns.length) (h : ∀ j : Int, 0 ≤ j → j < ns.length → ws[j.toNat]? = some (sz ns rl j)) : ws = szL ns rl := by
  refine List.ext_getElem? fun j => ?_
  by_cases hj : j < ns.length
  · have a := h j (by omega) (by omega)
    have b := szL_get (ns := ns) (rl := rl) (j := (j : Int)) (by omega) (by omega)
    rw [show ((j : Int)).toNat = j by omega] at a b
    rw [a, b]
  · rw [List.getElem?_eq_none (by omega), List.getElem?_eq_none (by rw [szL_len]; omega)]
theorem tb_rows {ts : List Tb} {xt : List (List E)} (hxt : xt = ts.map tbr) {T : Int} (h : 0 ≤ T ∧ T < xt.length) : ∃ ps pc px, xt.getD T.toNat [] = [E.str ps, E.int pc, E.sl px] ∧ (px.length : Int) = rowsOf ts T := by
  obtain ⟨p, q1, q2⟩ := row_at hxt h
  exact ⟨p.1, p.2.1, p.2.2.map rsr, q1, by rw [rowsOf]; simp [List.getD, q2]⟩
abbrev shp (x xt : List (List E)) (n : Nat) : List O := [.box [.e (.sl x)], .box [.e (.sl xt)], .front n 1]
theorem shp_side {env : RF → List (Nat × D)} {x xt : List (List E)} {n : Nat} (h1 : ∀ t, env t = renEnv t (env id)) (h2 : ltEnv 3 (env id) = true) : SideW env (fun _ => shp x xt n) :=
  ⟨h1, h2, fun t => rfl, by
    intro o ho
    simp only [List.mem_cons, List.not_mem_nil, or_false] at ho
    rcases ho with rfl | rfl | rfl
    · rfl
    · rfl
    · rfl⟩
set_option maxRecDepth 100000 in
set_option maxHeartbeats 8000000 in
theorem ok87 (ns : List Pd) (x : List (List E)) (hx : x = ns.map pdr) (hxl : x.length ≤ 2000) (ts : List Tb) (xt : List (List E)) (hxt : xt = ts.map tbr) (hrl : ∀ t : Int, rowsOf ts t ≤ 1048576) (hin : InP ns) (hscan : ∀ j : Int, 0 ≤ j → j < ns.length → (ns.getD j.toNat default).K = 2 → 0 ≤ (ns.getD j.toNat default).T ∧ (ns.getD j.toNat default).T < ts.length) (xs : List (List E)) (hxs : xs = (szL ns (rowsOf ts)).map ir) :
    Plain Try.prog 87 [.agg [.e (.sl x)], .agg [.e (.sl xt)]] (.e (.sl xs)) := okOf mixed p87 fun A P hA hP => (by
  have hxn : x.length = ns.length := by rw [hx]; simp
  have hxT : xt.length = ts.length := by rw [hxt]; simp
  obtain ⟨ze, hze⟩ : ∃ z : Int, z = x.length := ⟨_, rfl⟩
  cbv
  repeat' first | with_reducible rfl | with_reducible refine And.intro ?_ ?_ | ((with_reducible intro hcc); first | (cases hcc; done) | skip) | ((with_reducible first | show goC _ _ _ _ _ _ _ _ | show goOps _ _ _ _ _ | show goD _ _ _ _ _ _); cbv) | ((with_reducible show okWr _ _ = _); rfl) | ((with_reducible first | refine hA.fin_pl _ _ _ ?_ | refine hA.len _ _ _ _ _ fun z hz hb => ?_ | refine hA.off _ _ _ _ fun b hb => ?_ | refine hA.plus _ _ _ fun b hb => ?_ | refine hA.alt _ _ (Or.inl ?_) | refine hA.gb0 true _ ?_ | refine hA.gb0 false _ ?_ | refine hA.gb _ _ fun vb hvb => ?_); cbv) | ((with_reducible first | refine hA.app _ _ _ _ _ ⟨?_, fun zs m hzs hm => ?_⟩ | refine hA.app0 _ _ _ ⟨?_, fun m hm => ?_⟩ | refine hA.st _ _ _ _ _ ⟨?_, fun ds hds => ?_⟩ | refine hA.appv _ _ _ _ _ _ ⟨?_, fun bb m ds hbb hm hds => ?_⟩ | refine hA.vcut _ _ _ _ ⟨?_, fun cs hcs => ?_⟩ | refine hA.appw _ _ _ _ _ _ _ ⟨?_, fun bb m ds hbb hm hds => ?_⟩ | refine hA.sapp _ _ _ ⟨?_, fun sl hsl => ?_⟩); rotate_left; cbv) | (simp only [hA.lits]; cbv)
  all_goals try simp only [hA.ar, inR, n_cast, Int.ofNat_eq_natCast, Option.getD_some, Option.getD_none] at *
  all_goals try omega
  refine hA.loopI (fun m s => ∃ (i : Int) (ws : List Int) (xw : List (List E)), 0 ≤ i ∧ m + i = x.length ∧ ws.length = i.toNat ∧ (∀ j : Int, 0 ≤ j → j < i → ws[j.toNat]? = some (sz ns (rowsOf ts) j)) ∧ xw = ws.map ir ∧ s = ⟨[(6, .int i), (5, .own 2 xw), (2, .ref 0 0), (3, .ref 1 0)], shp x xt xw.length⟩) x.length _
    ((Weak.zown 5 1 rfl).trans (Weak.keep (env' := [(6, .int 0), (5, .own 2 []), (2, .ref 0 0), (3, .ref 1 0)]) ⟨rfl, rfl, rfl, rfl, trivial⟩)) ⟨0, [], [], by omega, by omega, rfl, (fun j a b => by omega), rfl, rfl⟩ ?_
  rintro m s Kk ⟨i, ws, xw, i0, i1, i2, i3, hxw, rfl⟩ hK
  have hxwl : xw.length = i.toNat := by rw [hxw, List.length_map, i2]
  obtain ⟨kx, hkx⟩ : ∃ k, k = xw.length := ⟨_, rfl⟩
  rw [← hkx]
  by_cases hi : (0 : Int) ≤ i ∧ i < x.length
  case neg =>
    have e8 : A.lt i ze = false := by rw [hA.lt]; exact decide_eq_false (by omega)
    have hxx : xs = xw := by rw [hxs, hxw, szL_ext (ws := ws) (by omega) fun j a b => i3 j a (by omega)]
    clear hK i3
    cbv
    repeat' first | with_reducible rfl | (simp only [e8]; cbv) | with_reducible refine And.intro ?_ ?_ | ((with_reducible intro hcc); first | (cases hcc; done) | skip) | ((with_reducible first | show goC _ _ _ _ _ _ _ _ | show goOps _ _ _ _ _ | show goD _ _ _ _ _ _); cbv) | ((with_reducible show okWr _ _ = _); rfl) | ((with_reducible refine hA.len x _ _ _ _ fun z hz hb => ?_); (have e6 := hze.trans hz.symm); subst e6; cbv) | ((with_reducible first | refine hA.fin_pl _ _ _ ?_ | refine hA.len _ _ _ _ _ fun z hz hb => ?_ | refine hA.off _ _ _ _ fun b hb => ?_ | refine hA.plus _ _ _ fun b hb => ?_ | refine hA.alt _ _ (Or.inl ?_) | refine hA.gb0 true _ ?_ | refine hA.gb0 false _ ?_ | refine hA.gb _ _ fun vb hvb => ?_); cbv) | ((with_reducible first | refine hA.app _ _ _ _ _ ⟨?_, fun zs m hzs hm => ?_⟩ | refine hA.app0 _ _ _ ⟨?_, fun m hm => ?_⟩ | refine hA.st _ _ _ _ _ ⟨?_, fun ds hds => ?_⟩ | refine hA.appv _ _ _ _ _ _ ⟨?_, fun bb m ds hbb hm hds => ?_⟩ | refine hA.vcut _ _ _ _ ⟨?_, fun cs hcs => ?_⟩ | refine hA.appw _ _ _ _ _ _ _ ⟨?_, fun bb m ds hbb hm hds => ?_⟩ | refine hA.sapp _ _ _ ⟨?_, fun sl hsl => ?_⟩); rotate_left; cbv) | (simp only [hA.lits]; cbv)
    all_goals try simp only [hA.ar, inR, n_cast, Int.ofNat_eq_natCast, Option.getD_some, Option.getD_none] at *
    all_goals first | omega | (rw [hxx]; done) | (trace_state; fail)
  case pos =>
    have e8 : A.lt i ze = true := by rw [hA.lt]; exact decide_eq_true (by omega)
    obtain ⟨K, T, M, Ex, Exs, L, R, xe, ye, q0, qm, hxe, hye, q1⟩ := pd_at hx hi
    obtain ⟨hK1, hKL, hKR⟩ := hin i hi.1 (by omega)
    have hsc := hscan i hi.1 (by omega)
    have hsz := sz_eq (rl := rowsOf ts) hin hi.1 (by omega)
    have hrg : ∀ j : Int, 0 ≤ j → j < ns.length → 0 ≤ sz ns (rowsOf ts) j ∧ sz ns (rowsOf ts) j ≤ 2001 := fun j a b => sz_rng hin (rowsOf_nn ts) a b
    rw [q0] at hK1 hKL hKR hsc hsz
    simp only at hK1 hKL hKR hsc
    obtain ⟨l, hl⟩ : ∃ l, l = sz ns (rowsOf ts) L := ⟨_, rfl⟩
    obtain ⟨r, hr⟩ : ∃ r, r = sz ns (rowsOf ts) R := ⟨_, rfl⟩
    obtain ⟨w, hw⟩ : ∃ w, w = sz ns (rowsOf ts) i := ⟨_, rfl⟩
    have hwr := hrg i hi.1 (by omega)
    rw [← hw] at hsz hwr
    simp only [szN, ← hl, ← hr] at hsz
    obtain ⟨c1, hc1⟩ : ∃ b, b = decide (K = 1) := ⟨_, rfl⟩
    have v1 : A.eq K 1 = c1 := by rw [hA.eq, hc1]
    obtain ⟨c2, hc2⟩ : ∃ b, b = decide (K = 2) := ⟨_, rfl⟩
    have v2 : A.eq K 2 = c2 := by rw [hA.eq, hc2]
    obtain ⟨c5, hc5⟩ : ∃ b, b = decide (K = 5) := ⟨_, rfl⟩
    have v5 : A.eq K 5 = c5 := by rw [hA.eq, hc5]
    obtain ⟨c6, hc6⟩ : ∃ b, b = decide (K = 6) := ⟨_, rfl⟩
    have v6 : A.eq K 6 = c6 := by rw [hA.eq, hc6]
    obtain ⟨c10, hc10⟩ : ∃ b, b = decide (K = 10) := ⟨_, rfl⟩
    have v10 : A.eq K 10 = c10 := by rw [hA.eq, hc10]
    have hcl : ∀ {p : Prop} [Decidable p] {c : Bool}, c = decide p → ¬ p → c = false := fun h q => by rw [h]; exact decide_eq_false q
    have hct : ∀ {p : Prop} [Decidable p] {c : Bool}, c = decide p → p → c = true := fun h q => by rw [h]; exact decide_eq_true q
    have hLx : 0 ≤ L → L < i → (0 ≤ L ∧ L < xw.length) ∧ xw.getD L.toNat [] = [E.int l] := fun a b => by
      have h2 : (0 : Int) ≤ L ∧ L < xw.length := by omega
      obtain ⟨p, qp, qq⟩ := row_at hxw h2
      rw [i3 L a b] at qq
      cases qq
      exact ⟨h2, by rw [hl]; exact qp⟩
    have hRx : 0 ≤ R → R < i → (0 ≤ R ∧ R < xw.length) ∧ xw.getD R.toNat [] = [E.int r] := fun a b => by
      have h2 : (0 : Int) ≤ R ∧ R < xw.length := by omega
      obtain ⟨p, qp, qq⟩ := row_at hxw h2
      rw [i3 R a b] at qq
      cases qq
      exact ⟨h2, by rw [hr]; exact qp⟩
    have hK2 : ∀ (zs : List (List E)) (mm : Nat) (v : Int) (env : List (Nat × D)) (hp : List O), zs = xw ++ [[E.int v]] → v = w → mm = zs.length → hpF hp 0 = .box [.e (.sl x)] → hpF hp 1 = .box [.e (.sl xt)] → hpF hp 2 = .front mm 1 → subW [(6, .int (i + 1)), (5, .own 2 zs), (2, .ref 0 0), (3, .ref 1 0)] env → Kk ⟨env, hp⟩ := fun zs mm v env hp t1 t0 t2 t3 t4 t5 t6 =>
      hK _ (m - 1) _ (by omega) (Weak.ren (l0 := []) [0, 1, 2] (fun t => [(6, .int (i + 1)), (5, .own (t 2) zs), (2, .ref (t 0) 0), (3, .ref (t 1) 0)]) (fun _ => shp x xt zs.length) rfl t6 ⟨t3, t4, by rw [t5, t2], trivial⟩ (shp_side (fun t => rfl) rfl))
        ⟨i + 1, ws ++ [v], zs, by omega, by omega, by simp; omega, fun j a b => by
          by_cases hj : j < i
          · rw [List.getElem?_append_left (by omega)]; exact i3 j a hj
          · rw [List.getElem?_append_right (by omega), show j.toNat - ws.length = 0 by omega, show j = i by omega, ← hw, t0]; rfl, by rw [t1, hxw, List.map_append]; rfl, rfl⟩
    rcases (show K = 1 ∨ K = 2 ∨ (K = 5 ∨ K = 6) ∨ K = 10 ∨ (K = 3 ∨ K = 4 ∨ K = 7 ∨ K = 8 ∨ K = 9) by omega) with c | c | c | c | c
    · rw [if_pos c] at hsz
      have d1 := hct hc1 c; subst d1
      clear hc1 hc2 hc5 hc6 hc10
      clear hK hLx hRx hrg hscan hin hKL hKR hsc q0 qm hw hl hr i3
      cbv
      repeat' first | with_reducible rfl | (simp only [v1, v2, v5, v6, v10, e8]; cbv) | with_reducible refine And.intro ?_ ?_ | ((with_reducible intro hcc); first | (cases hcc; done) | skip) | ((with_reducible first | show goC _ _ _ _ _ _ _ _ | show goOps _ _ _ _ _ | show goD _ _ _ _ _ _); cbv) | ((with_reducible show okWr _ _ = _); rfl) | ((with_reducible refine hA.len x _ _ _ _ fun z hz hb => ?_); (have e6 := hze.trans hz.symm); subst e6; cbv) | ((with_reducible refine hA.row x i _ ⟨hi, fun row hrow => ?_⟩); rw [q1] at hrow; subst hrow; cbv) | ((with_reducible refine hA.st [_, _, _, _, _, _, _] _ _ _ _ ⟨?_, fun ds hds => ?_⟩); rotate_left; (have hds : ds = [.int K, .int T, .int M, .e (.sl xe), .e (.sl ye), .int L, .int R] := hds); subst hds; cbv) | ((with_reducible first | refine hA.fin_pl _ _ _ ?_ | refine hA.len _ _ _ _ _ fun z hz hb => ?_ | refine hA.off _ _ _ _ fun b hb => ?_ | refine hA.plus _ _ _ fun b hb => ?_ | refine hA.alt _ _ (Or.inl ?_) | refine hA.gb0 true _ ?_ | refine hA.gb0 false _ ?_ | refine hA.gb _ _ fun vb hvb => ?_); cbv) | ((with_reducible first | refine hA.app _ _ _ _ _ ⟨?_, fun zs m hzs hm => ?_⟩ | refine hA.app0 _ _ _ ⟨?_, fun m hm => ?_⟩ | refine hA.st _ _ _ _ _ ⟨?_, fun ds hds => ?_⟩ | refine hA.appv _ _ _ _ _ _ ⟨?_, fun bb m ds hbb hm hds => ?_⟩ | refine hA.vcut _ _ _ _ ⟨?_, fun cs hcs => ?_⟩ | refine hA.appw _ _ _ _ _ _ _ ⟨?_, fun bb m ds hbb hm hds => ?_⟩ | refine hA.sapp _ _ _ ⟨?_, fun sl hsl => ?_⟩); rotate_left; cbv) | (simp only [hA.lits]; cbv)
      all_goals try simp only [hA.ar, inR, n_cast, Int.ofNat_eq_natCast, Option.getD_some, Option.getD_none] at *
      all_goals first
        | omega
        | trivial
        | exact hK2 _ _ _ _ _ hzs hsz.symm hm rfl rfl rfl ⟨.inl rfl, .inl rfl, .inl rfl, .inl rfl, trivial⟩
        | (rw [hkx]; done)
        | exact ⟨rfl, trivial⟩
        | (simp; done)
        | (simp only [List.length_cons, List.length_nil]; omega)
        | (trace_state; fail)
    · rw [if_neg (by omega), if_pos c] at hsz
      have d1 := hcl hc1 (by omega); have d2 := hct hc2 c; subst d1; subst d2
      have hT : (0 : Int) ≤ T ∧ T < xt.length := by have := hsc c; omega
      obtain ⟨ps, pc, px, q3, hpx⟩ := tb_rows hxt hT
      rw [← hpx] at hsz
      obtain ⟨zx, hzx⟩ : ∃ z : Int, z = px.length := ⟨_, rfl⟩
      rw [← hzx] at hsz
      clear hc1 hc2 hc5 hc6 hc10
      have h295 := ok149 zx
      obtain ⟨cz, hcz⟩ : ∃ c, c = capW zx := ⟨_, rfl⟩
      rw [← hcz] at h295 hsz
      clear hK hLx hRx hrg hscan hin hKL hKR hsc q0 qm hw hl hr i3
      cbv
      repeat' first | with_reducible rfl | (simp only [v1, v2, v5, v6, v10, e8]; cbv) | with_reducible refine And.intro ?_ ?_ | ((with_reducible intro hcc); first | (cases hcc; done) | skip) | ((with_reducible first | show goC _ _ _ _ _ _ _ _ | show goOps _ _ _ _ _ | show goD _ _ _ _ _ _); cbv) | ((with_reducible show okWr _ _ = _); rfl) | ((with_reducible refine hA.len x _ _ _ _ fun z hz hb => ?_); (have e6 := hze.trans hz.symm); subst e6; cbv) | ((with_reducible refine hA.row x i _ ⟨hi, fun row hrow => ?_⟩); rw [q1] at hrow; subst hrow; cbv) | ((with_reducible refine hA.st [_, _, _, _, _, _, _] _ _ _ _ ⟨?_, fun ds hds => ?_⟩); rotate_left; (have hds : ds = [.int K, .int T, .int M, .e (.sl xe), .e (.sl ye), .int L, .int R] := hds); subst hds; cbv) | ((with_reducible refine hA.row xt T _ ⟨hT, fun row hrow => ?_⟩); rw [q3] at hrow; subst hrow; cbv) | ((with_reducible refine hA.len px _ _ _ _ fun z hz hb => ?_); (have e6 := hzx.trans hz.symm); subst e6; cbv) | ((with_reducible first | refine callK_f hA hP h295 ?_ ?_ ?_); exact rfl; exact rfl; cbv) | ((with_reducible first | refine hA.fin_pl _ _ _ ?_ | refine hA.len _ _ _ _ _ fun z hz hb => ?_ | refine hA.off _ _ _ _ fun b hb => ?_ | refine hA.plus _ _ _ fun b hb => ?_ | refine hA.alt _ _ (Or.inl ?_) | refine hA.gb0 true _ ?_ | refine hA.gb0 false _ ?_ | refine hA.gb _ _ fun vb hvb => ?_); cbv) | ((with_reducible first | refine hA.app _ _ _ _ _ ⟨?_, fun zs m hzs hm => ?_⟩ | refine hA.app0 _ _ _ ⟨?_, fun m hm => ?_⟩ | refine hA.st _ _ _ _ _ ⟨?_, fun ds hds => ?_⟩ | refine hA.appv _ _ _ _ _ _ ⟨?_, fun bb m ds hbb hm hds => ?_⟩ | refine hA.vcut _ _ _ _ ⟨?_, fun cs hcs => ?_⟩ | refine hA.appw _ _ _ _ _ _ _ ⟨?_, fun bb m ds hbb hm hds => ?_⟩ | refine hA.sapp _ _ _ ⟨?_, fun sl hsl => ?_⟩); rotate_left; cbv) | (simp only [hA.lits]; cbv)
      all_goals try simp only [hA.ar, inR, n_cast, Int.ofNat_eq_natCast, Option.getD_some, Option.getD_none] at *
      all_goals first
        | omega
        | trivial
        | exact hK2 _ _ _ _ _ hzs hsz.symm hm rfl rfl rfl ⟨.inl rfl, .inl rfl, .inl rfl, .inl rfl, trivial⟩
        | (rw [hkx]; done)
        | exact ⟨rfl, trivial⟩
        | (simp; done)
        | (simp only [List.length_cons, List.length_nil]; omega)
        | (trace_state; fail)
    · rw [if_neg (by omega), if_neg (by omega), if_pos c] at hsz
      have d1 := hcl hc1 (by omega); have d2 := hcl hc2 (by omega); subst d1; subst d2
      have kl := hKL (by simp [hasL]; omega)
      have kr := hKR (by simp [hasR]; omega)
      have gl := hrg L kl.1 (by omega)
      have gr := hrg R kr.1 (by omega)
      rw [← hl] at gl
      rw [← hr] at gr
      have hlr0 := Int.mul_nonneg gl.1 gr.1
      have hlr1 : l * r ≤ 2001 * 2001 := Int.mul_le_mul gl.2 gr.2 gr.1 (by omega)
      obtain ⟨lr, hlr⟩ : ∃ z, z = A.mul l r := ⟨_, rfl⟩
      have hlr2 : lr = l * r := by rw [hlr, hA.mul]
      rw [← hlr2] at hsz hlr0 hlr1
      rcases c with c | c
      · have d5 := hct hc5 c; subst d5
        clear hc1 hc2 hc5 hc6 hc10
        have h295 := ok149 lr
        obtain ⟨cz, hcz⟩ : ∃ c, c = capW lr := ⟨_, rfl⟩
        rw [← hcz] at h295 hsz
        obtain ⟨pL, qL⟩ := hLx kl.1 kl.2
        obtain ⟨pR, qR⟩ := hRx kr.1 kr.2
        clear hK hLx hRx hrg hscan hin hKL hKR hsc q0 qm hw hl hr i3
        cbv
        repeat' first | with_reducible rfl | (simp only [v1, v2, v5, v6, v10, e8, ← hlr]; cbv) | with_reducible refine And.intro ?_ ?_ | ((with_reducible intro hcc); first | (cases hcc; done) | skip) | ((with_reducible first | show goC _ _ _ _ _ _ _ _ | show goOps _ _ _ _ _ | show goD _ _ _ _ _ _); cbv) | ((with_reducible show okWr _ _ = _); rfl) | ((with_reducible refine hA.len x _ _ _ _ fun z hz hb => ?_); (have e6 := hze.trans hz.symm); subst e6; cbv) | ((with_reducible refine hA.row x i _ ⟨hi, fun row hrow => ?_⟩); rw [q1] at hrow; subst hrow; cbv) | ((with_reducible refine hA.st [_, _, _, _, _, _, _] _ _ _ _ ⟨?_, fun ds hds => ?_⟩); rotate_left; (have hds : ds = [.int K, .int T, .int M, .e (.sl xe), .e (.sl ye), .int L, .int R] := hds); subst hds; cbv) | ((with_reducible first | refine callK_f hA hP h295 ?_ ?_ ?_); exact rfl; exact rfl; cbv) | ((with_reducible refine hA.row xw L _ ⟨pL, fun row hrow => ?_⟩); rw [qL] at hrow; subst hrow; cbv) | ((with_reducible refine hA.row xw R _ ⟨pR, fun row hrow => ?_⟩); rw [qR] at hrow; subst hrow; cbv) | ((with_reducible first | refine hA.fin_pl _ _ _ ?_ | refine hA.len _ _ _ _ _ fun z hz hb => ?_ | refine hA.off _ _ _ _ fun b hb => ?_ | refine hA.plus _ _ _ fun b hb => ?_ | refine hA.alt _ _ (Or.inl ?_) | refine hA.gb0 true _ ?_ | refine hA.gb0 false _ ?_ | refine hA.gb _ _ fun vb hvb => ?_); cbv) | ((with_reducible first | refine hA.app _ _ _ _ _ ⟨?_, fun zs m hzs hm => ?_⟩ | refine hA.app0 _ _ _ ⟨?_, fun m hm => ?_⟩ | refine hA.st _ _ _ _ _ ⟨?_, fun ds hds => ?_⟩ | refine hA.appv _ _ _ _ _ _ ⟨?_, fun bb m ds hbb hm hds => ?_⟩ | refine hA.vcut _ _ _ _ ⟨?_, fun cs hcs => ?_⟩ | refine hA.appw _ _ _ _ _ _ _ ⟨?_, fun bb m ds hbb hm hds => ?_⟩ | refine hA.sapp _ _ _ ⟨?_, fun sl hsl => ?_⟩); rotate_left; cbv) | (simp only [hA.lits]; cbv)
        all_goals try simp only [hA.ar, inR, n_cast, Int.ofNat_eq_natCast, Option.getD_some, Option.getD_none] at *
        all_goals first
          | omega
          | trivial
          | exact hK2 _ _ _ _ _ hzs hsz.symm hm rfl rfl rfl ⟨.inl rfl, .inl rfl, .inl rfl, .inl rfl, trivial⟩
          | (rw [hkx]; done)
          | exact ⟨rfl, trivial⟩
          | (simp; done)
          | (simp only [List.length_cons, List.length_nil]; omega)
          | (trace_state; fail)
      · have d5 := hcl hc5 (by omega); have d6 := hct hc6 c; subst d5; subst d6
        clear hc1 hc2 hc5 hc6 hc10
        have h295 := ok149 lr
        obtain ⟨cz, hcz⟩ : ∃ c, c = capW lr := ⟨_, rfl⟩
        rw [← hcz] at h295 hsz
        obtain ⟨pL, qL⟩ := hLx kl.1 kl.2
        obtain ⟨pR, qR⟩ := hRx kr.1 kr.2
        clear hK hLx hRx hrg hscan hin hKL hKR hsc q0 qm hw hl hr i3
        cbv
        repeat' first | with_reducible rfl | (simp only [v1, v2, v5, v6, v10, e8, ← hlr]; cbv) | with_reducible refine And.intro ?_ ?_ | ((with_reducible intro hcc); first | (cases hcc; done) | skip) | ((with_reducible first | show goC _ _ _ _ _ _ _ _ | show goOps _ _ _ _ _ | show goD _ _ _ _ _ _); cbv) | ((with_reducible show okWr _ _ = _); rfl) | ((with_reducible refine hA.len x _ _ _ _ fun z hz hb => ?_); (have e6 := hze.trans hz.symm); subst e6; cbv) | ((with_reducible refine hA.row x i _ ⟨hi, fun row hrow => ?_⟩); rw [q1] at hrow; subst hrow; cbv) | ((with_reducible refine hA.st [_, _, _, _, _, _, _] _ _ _ _ ⟨?_, fun ds hds => ?_⟩); rotate_left; (have hds : ds = [.int K, .int T, .int M, .e (.sl xe), .e (.sl ye), .int L, .int R] := hds); subst hds; cbv) | ((with_reducible first | refine callK_f hA hP h295 ?_ ?_ ?_); exact rfl; exact rfl; cbv) | ((with_reducible refine hA.row xw L _ ⟨pL, fun row hrow => ?_⟩); rw [qL] at hrow; subst hrow; cbv) | ((with_reducible refine hA.row xw R _ ⟨pR, fun row hrow => ?_⟩); rw [qR] at hrow; subst hrow; cbv) | ((with_reducible first | refine hA.fin_pl _ _ _ ?_ | refine hA.len _ _ _ _ _ fun z hz hb => ?_ | refine hA.off _ _ _ _ fun b hb => ?_ | refine hA.plus _ _ _ fun b hb => ?_ | refine hA.alt _ _ (Or.inl ?_) | refine hA.gb0 true _ ?_ | refine hA.gb0 false _ ?_ | refine hA.gb _ _ fun vb hvb => ?_); cbv) | ((with_reducible first | refine hA.app _ _ _ _ _ ⟨?_, fun zs m hzs hm => ?_⟩ | refine hA.app0 _ _ _ ⟨?_, fun m hm => ?_⟩ | refine hA.st _ _ _ _ _ ⟨?_, fun ds hds => ?_⟩ | refine hA.appv _ _ _ _ _ _ ⟨?_, fun bb m ds hbb hm hds => ?_⟩ | refine hA.vcut _ _ _ _ ⟨?_, fun cs hcs => ?_⟩ | refine hA.appw _ _ _ _ _ _ _ ⟨?_, fun bb m ds hbb hm hds => ?_⟩ | refine hA.sapp _ _ _ ⟨?_, fun sl hsl => ?_⟩); rotate_left; cbv) | (simp only [hA.lits]; cbv)
        all_goals try simp only [hA.ar, inR, n_cast, Int.ofNat_eq_natCast, Option.getD_some, Option.getD_none] at *
        all_goals first
          | omega
          | trivial
          | exact hK2 _ _ _ _ _ hzs hsz.symm hm rfl rfl rfl ⟨.inl rfl, .inl rfl, .inl rfl, .inl rfl, trivial⟩
          | (rw [hkx]; done)
          | exact ⟨rfl, trivial⟩
          | (simp; done)
          | (simp only [List.length_cons, List.length_nil]; omega)
          | (trace_state; fail)
    · rw [if_neg (by omega), if_neg (by omega), if_neg (by omega), if_pos c] at hsz
      have d1 := hcl hc1 (by omega); have d2 := hcl hc2 (by omega); have d5 := hcl hc5 (by omega); have d6 := hcl hc6 (by omega); have d10 := hct hc10 c; subst d1; subst d2; subst d5; subst d6; subst d10
      have kl := hKL (by simp [hasL]; omega)
      have kr := hKR (by simp [hasR]; omega)
      have gl := hrg L kl.1 (by omega)
      have gr := hrg R kr.1 (by omega)
      rw [← hl] at gl
      rw [← hr] at gr
      obtain ⟨lr, hlr⟩ : ∃ z, z = A.add l r := ⟨_, rfl⟩
      have hlr2 : lr = l + r := by rw [hlr, hA.add]
      rw [← hlr2] at hsz
      have hlr0 : 0 ≤ lr := by omega
      have hlr1 : lr ≤ 2001 * 2001 := by omega
      clear hc1 hc2 hc5 hc6 hc10
      have h295 := ok149 lr
      obtain ⟨cz, hcz⟩ : ∃ c, c = capW lr := ⟨_, rfl⟩
      rw [← hcz] at h295 hsz
      obtain ⟨pL, qL⟩ := hLx kl.1 kl.2
      obtain ⟨pR, qR⟩ := hRx kr.1 kr.2
      clear hK hLx hRx hrg hscan hin hKL hKR hsc q0 qm hw hl hr i3
      cbv
      repeat' first | with_reducible rfl | (simp only [v1, v2, v5, v6, v10, e8, ← hlr]; cbv) | with_reducible refine And.intro ?_ ?_ | ((with_reducible intro hcc); first | (cases hcc; done) | skip) | ((with_reducible first | show goC _ _ _ _ _ _ _ _ | show goOps _ _ _ _ _ | show goD _ _ _ _ _ _); cbv) | ((with_reducible show okWr _ _ = _); rfl) | ((with_reducible refine hA.len x _ _ _ _ fun z hz hb => ?_); (have e6 := hze.trans hz.symm); subst e6; cbv) | ((with_reducible refine hA.row x i _ ⟨hi, fun row hrow => ?_⟩); rw [q1] at hrow; subst hrow; cbv) | ((with_reducible refine hA.st [_, _, _, _, _, _, _] _ _ _ _ ⟨?_, fun ds hds => ?_⟩); rotate_left; (have hds : ds = [.int K, .int T, .int M, .e (.sl xe), .e (.sl ye), .int L, .int R] := hds); subst hds; cbv) | ((with_reducible first | refine callK_f hA hP h295 ?_ ?_ ?_); exact rfl; exact rfl; cbv) | ((with_reducible refine hA.row xw L _ ⟨pL, fun row hrow => ?_⟩); rw [qL] at hrow; subst hrow; cbv) | ((with_reducible refine hA.row xw R _ ⟨pR, fun row hrow => ?_⟩); rw [qR] at hrow; subst hrow; cbv) | ((with_reducible first | refine hA.fin_pl _ _ _ ?_ | refine hA.len _ _ _ _ _ fun z hz hb => ?_ | refine hA.off _ _ _ _ fun b hb => ?_ | refine hA.plus _ _ _ fun b hb => ?_ | refine hA.alt _ _ (Or.inl ?_) | refine hA.gb0 true _ ?_ | refine hA.gb0 false _ ?_ | refine hA.gb _ _ fun vb hvb => ?_); cbv) | ((with_reducible first | refine hA.app _ _ _ _ _ ⟨?_, fun zs m hzs hm => ?_⟩ | refine hA.app0 _ _ _ ⟨?_, fun m hm => ?_⟩ | refine hA.st _ _ _ _ _ ⟨?_, fun ds hds => ?_⟩ | refine hA.appv _ _ _ _ _ _ ⟨?_, fun bb m ds hbb hm hds => ?_⟩ | refine hA.vcut _ _ _ _ ⟨?_, fun cs hcs => ?_⟩ | refine hA.appw _ _ _ _ _ _ _ ⟨?_, fun bb m ds hbb hm hds => ?_⟩ | refine hA.sapp _ _ _ ⟨?_, fun sl hsl => ?_⟩); rotate_left; cbv) | (simp only [hA.lits]; cbv)
      all_goals try simp only [hA.ar, inR, n_cast, Int.ofNat_eq_natCast, Option.getD_some, Option.getD_none] at *
      all_goals first
        | omega
        | trivial
        | exact hK2 _ _ _ _ _ hzs hsz.symm hm rfl rfl rfl ⟨.inl rfl, .inl rfl, .inl rfl, .inl rfl, trivial⟩
        | (rw [hkx]; done)
        | exact ⟨rfl, trivial⟩
        | (simp; done)
        | (simp only [List.length_cons, List.length_nil]; omega)
        | (trace_state; fail)
    · rw [if_neg (by omega), if_neg (by omega), if_neg (by omega), if_neg (by omega)] at hsz
      have d1 := hcl hc1 (by omega); have d2 := hcl hc2 (by omega); have d5 := hcl hc5 (by omega); have d6 := hcl hc6 (by omega); have d10 := hcl hc10 (by omega); subst d1; subst d2; subst d5; subst d6; subst d10
      have kl := hKL (by simp [hasL]; omega)
      have gl := hrg L kl.1 (by omega)
      rw [← hl] at gl
      clear hc1 hc2 hc5 hc6 hc10
      obtain ⟨pL, qL⟩ := hLx kl.1 kl.2
      clear hK hLx hRx hrg hscan hin hKL hKR hsc q0 qm hw hl hr i3
      cbv
      repeat' first | with_reducible rfl | (simp only [v1, v2, v5, v6, v10, e8]; cbv) | with_reducible refine And.intro ?_ ?_ | ((with_reducible intro hcc); first | (cases hcc; done) | skip) | ((with_reducible first | show goC _ _ _ _ _ _ _ _ | show goOps _ _ _ _ _ | show goD _ _ _ _ _ _); cbv) | ((with_reducible show okWr _ _ = _); rfl) | ((with_reducible refine hA.len x _ _ _ _ fun z hz hb => ?_); (have e6 := hze.trans hz.symm); subst e6; cbv) | ((with_reducible refine hA.row x i _ ⟨hi, fun row hrow => ?_⟩); rw [q1] at hrow; subst hrow; cbv) | ((with_reducible refine hA.st [_, _, _, _, _, _, _] _ _ _ _ ⟨?_, fun ds hds => ?_⟩); rotate_left; (have hds : ds = [.int K, .int T, .int M, .e (.sl xe), .e (.sl ye), .int L, .int R] := hds); subst hds; cbv) | ((with_reducible refine hA.row xw L _ ⟨pL, fun row hrow => ?_⟩); rw [qL] at hrow; subst hrow; cbv) | ((with_reducible first | refine hA.fin_pl _ _ _ ?_ | refine hA.len _ _ _ _ _ fun z hz hb => ?_ | refine hA.off _ _ _ _ fun b hb => ?_ | refine hA.plus _ _ _ fun b hb => ?_ | refine hA.alt _ _ (Or.inl ?_) | refine hA.gb0 true _ ?_ | refine hA.gb0 false _ ?_ | refine hA.gb _ _ fun vb hvb => ?_); cbv) | ((with_reducible first | refine hA.app _ _ _ _ _ ⟨?_, fun zs m hzs hm => ?_⟩ | refine hA.app0 _ _ _ ⟨?_, fun m hm => ?_⟩ | refine hA.st _ _ _ _ _ ⟨?_, fun ds hds => ?_⟩ | refine hA.appv _ _ _ _ _ _ ⟨?_, fun bb m ds hbb hm hds => ?_⟩ | refine hA.vcut _ _ _ _ ⟨?_, fun cs hcs => ?_⟩ | refine hA.appw _ _ _ _ _ _ _ ⟨?_, fun bb m ds hbb hm hds => ?_⟩ | refine hA.sapp _ _ _ ⟨?_, fun sl hsl => ?_⟩); rotate_left; cbv) | (simp only [hA.lits]; cbv)
      all_goals try simp only [hA.ar, inR, n_cast, Int.ofNat_eq_natCast, Option.getD_some, Option.getD_none] at *
      all_goals first
        | omega
        | trivial
        | exact hK2 _ _ _ _ _ hzs hsz.symm hm rfl rfl rfl ⟨.inl rfl, .inl rfl, .inl rfl, .inl rfl, trivial⟩
        | (rw [hkx]; done)
        | exact ⟨rfl, trivial⟩
        | (simp; done)
        | (simp only [List.length_cons, List.length_nil]; omega)
        | (trace_state; fail))
theorem rb_side {env : RF → List (Nat × D)} {x xt : List (List E)} {c : List Int} {ds : List D} (h1 : ds = dsI c) (he : ∀ t, env t = renEnv t (env id)) (hl : ltEnv 3 (env id) = true) : SideW env (fun _ => [.box [.e (.sl x)], .box [.e (.sl xt)], .box ds]) := by
  subst h1
  exact ⟨he, hl, fun t => by simp only [List.map_cons, List.map_nil, O.ren, dsI_ren]; rfl, by
    intro o ho
    simp only [List.mem_cons, List.not_mem_nil, or_false] at ho
    rcases ho with rfl | rfl | rfl
    · rfl
    · rfl
    · simp only [O.lt, dsI_lt]⟩
set_option maxRecDepth 100000 in
set_option maxHeartbeats 8000000 in
theorem ok88 (ns : List Pd) (x : List (List E)) (hx : x = ns.map pdr) (hxl : x.length ≤ 2000) (ts : List Tb) (xt : List (List E)) (hxt : xt = ts.map tbr) (hrl : ∀ t : Int, rowsOf ts t ≤ 1048576) (hin : InP ns) (hscan : ∀ j : Int, 0 ≤ j → j < ns.length → (ns.getD j.toNat default).K = 2 → 0 ≤ (ns.getD j.toNat default).T ∧ (ns.getD j.toNat default).T < ts.length) (xs : List (List E)) (hxs : xs = (szL ns (rowsOf ts)).map ir) :
    Plain Try.prog 88 [.agg [.e (.sl x)], .agg [.e (.sl xt)]] (.e (.sl xs)) := okOf mixed p88 fun A P hA hP => (by
  have hxn : x.length = ns.length := by rw [hx]; simp
  have hxT : xt.length = ts.length := by rw [hxt]; simp
  obtain ⟨ze, hze⟩ : ∃ z : Int, z = x.length := ⟨_, rfl⟩
  obtain ⟨n, hn⟩ : ∃ n : Nat, n = x.length := ⟨_, rfl⟩
  cbv
  repeat' first | with_reducible rfl | with_reducible refine And.intro ?_ ?_ | ((with_reducible intro hcc); first | (cases hcc; done) | skip) | ((with_reducible first | show goC _ _ _ _ _ _ _ _ | show goOps _ _ _ _ _ | show goD _ _ _ _ _ _); cbv) | ((with_reducible show okWr _ _ = _); rfl) | ((with_reducible refine hA.len x _ _ _ _ fun z hz hb => ?_); (have e6 := hze.trans hz.symm); subst e6; cbv) | ((with_reducible refine hA.rep _ _ _ fun ds m hds hm => ?_); (have e7 : n = m := (by rw [hn, hm, hze]; rfl)); subst e7; cbv) | ((with_reducible first | refine hA.fin_pl _ _ _ ?_ | refine hA.len _ _ _ _ _ fun z hz hb => ?_ | refine hA.off _ _ _ _ fun b hb => ?_ | refine hA.plus _ _ _ fun b hb => ?_ | refine hA.rep _ _ _ fun ds m hds hm => ?_ | refine hA.alt _ _ (Or.inl ?_)); cbv) | ((with_reducible first | refine hA.st _ _ _ _ _ ⟨?_, fun ds hds => ?_⟩ | refine hA.sapp _ _ _ ⟨?_, fun sl hsl => ?_⟩); rotate_left; cbv) | (simp only [hA.lits]; cbv)
  all_goals try simp only [hA.ar, inR, n_cast, Int.ofNat_eq_natCast, Option.getD_some, Option.getD_none] at *
  all_goals try omega
  refine hA.loopI (fun mm s => ∃ (i : Int) (c1 : List Int) (ds1 : List D), 0 ≤ i ∧ mm + i = x.length ∧ c1.length = n ∧ (∀ j : Int, 0 ≤ j → j < i → c1[j.toNat]? = some (sz ns (rowsOf ts) j)) ∧ ds1 = dsI c1 ∧
      s = ⟨[(15, .int i), (14, .int ze), (13, .e (.sl x)), (5, .bs 2 0 n 1), (3, .ref 1 0)], [.box [.e (.sl x)], .box [.e (.sl xt)], .box ds1]⟩) x.length _
    (Weak.keep (env' := [(15, .int 0), (14, .int ze), (13, .e (.sl x)), (5, .bs 2 0 n 1), (3, .ref 1 0)]) ⟨rfl, rfl, rfl, rfl, rfl, trivial⟩)
    ⟨0, List.replicate n 0, _, by omega, by omega, by simp, (fun j a b => by omega), (by rw [← rep_dsI n, show n = ze.toNat by omega]; assumption), rfl⟩ ?_
  rintro m s Kk ⟨i, c0, ds1, i0, i1, i2, i3, hd1, rfl⟩ hK
  have hl1 : ds1.length = n := by rw [hd1, dsI_len, i2]
  by_cases hi : (0 : Int) ≤ i ∧ i < x.length
  case neg =>
    have e8 : A.lt i ze = false := by rw [hA.lt]; exact decide_eq_false (by omega)
    have hxx : xs = c0.map ir := by rw [hxs, szL_ext (ws := c0) (by omega) fun j a b => i3 j a (by omega)]
    have hds : ds1 = xs.flatten.map D.e := by rw [hd1, hxx, dsI_flat]
    have hxk : ∀ e ∈ xs, e.length = 1 := by rw [hxx]; intro e h; obtain ⟨q, _, rfl⟩ := List.mem_map.1 h; rfl
    clear hK i3
    cbv
    repeat' first | with_reducible rfl | (simp only [e8]; cbv) | with_reducible refine And.intro ?_ ?_ | ((with_reducible intro hcc); first | (cases hcc; done) | skip) | ((with_reducible first | show goC _ _ _ _ _ _ _ _ | show goOps _ _ _ _ _ | show goD _ _ _ _ _ _); cbv) | ((with_reducible show okWr _ _ = _); rfl) | ((with_reducible refine hA.fin_bs (es := xs) ?_ ?_ hxk)) | ((with_reducible first | refine hA.fin_pl _ _ _ ?_ | refine hA.len _ _ _ _ _ fun z hz hb => ?_ | refine hA.off _ _ _ _ fun b hb => ?_ | refine hA.plus _ _ _ fun b hb => ?_ | refine hA.rep _ _ _ fun ds m hds hm => ?_ | refine hA.alt _ _ (Or.inl ?_)); cbv) | ((with_reducible first | refine hA.st _ _ _ _ _ ⟨?_, fun ds hds => ?_⟩ | refine hA.sapp _ _ _ ⟨?_, fun sl hsl => ?_⟩); rotate_left; cbv) | (simp only [hA.lits]; cbv)
    all_goals try simp only [hA.ar, inR, n_cast, Int.ofNat_eq_natCast, Option.getD_some, Option.getD_none] at *
    all_goals first | omega | (rw [hds]; rfl) | (rw [hxx, List.length_map]; exact i2) | (trace_state; fail)
  case pos =>
    have e8 : A.lt i ze = true := by rw [hA.lt]; exact decide_eq_true (by omega)
    obtain ⟨K, T, M, Ex, Exs, L, R, xe, ye, q0, qm, hxe, hye, q1⟩ := pd_at hx hi
    obtain ⟨hK1, hKL, hKR⟩ := hin i hi.1 (by omega)
    have hsc := hscan i hi.1 (by omega)
    have hsz := sz_eq (rl := rowsOf ts) hin hi.1 (by omega)
    have hrg : ∀ j : Int, 0 ≤ j → j < ns.length → 0 ≤ sz ns (rowsOf ts) j ∧ sz ns (rowsOf ts) j ≤ 2001 := fun j a b => sz_rng hin (rowsOf_nn ts) a b
    rw [q0] at hK1 hKL hKR hsc hsz
    simp only at hK1 hKL hKR hsc
    obtain ⟨l, hl⟩ : ∃ l, l = sz ns (rowsOf ts) L := ⟨_, rfl⟩
    obtain ⟨r, hr⟩ : ∃ r, r = sz ns (rowsOf ts) R := ⟨_, rfl⟩
    obtain ⟨w, hw⟩ : ∃ w, w = sz ns (rowsOf ts) i := ⟨_, rfl⟩
    have hwr := hrg i hi.1 (by omega)
    rw [← hw] at hsz hwr
    simp only [szN, ← hl, ← hr] at hsz
    obtain ⟨c1, hc1⟩ : ∃ b, b = decide (K = 1) := ⟨_, rfl⟩
    have v1 : A.eq K 1 = c1 := by rw [hA.eq, hc1]
    obtain ⟨c2, hc2⟩ : ∃ b, b = decide (K = 2) := ⟨_, rfl⟩
    have v2 : A.eq K 2 = c2 := by rw [hA.eq, hc2]
    obtain ⟨c5, hc5⟩ : ∃ b, b = decide (K = 5) := ⟨_, rfl⟩
    have v5 : A.eq K 5 = c5 := by rw [hA.eq, hc5]
    obtain ⟨c6, hc6⟩ : ∃ b, b = decide (K = 6) := ⟨_, rfl⟩
    have v6 : A.eq K 6 = c6 := by rw [hA.eq, hc6]
    obtain ⟨c10, hc10⟩ : ∃ b, b = decide (K = 10) := ⟨_, rfl⟩
    have v10 : A.eq K 10 = c10 := by rw [hA.eq, hc10]
    have hcl : ∀ {p : Prop} [Decidable p] {c : Bool}, c = decide p → ¬ p → c = false := fun h q => by rw [h]; exact decide_eq_false q
    have hct : ∀ {p : Prop} [Decidable p] {c : Bool}, c = decide p → p → c = true := fun h q => by rw [h]; exact decide_eq_true q
    have hlt : ∀ {j v : Int}, 0 ≤ j → j < i → v = sz ns (rowsOf ts) j → ∀ {b : Nat} {c : D}, b = 0 + j.toNat * 1 → c = ds1.getD b default → c = .int v := fun {j v} a b e {b c} q1 q2 =>
      dsI_get hd1 (by rw [show b = j.toNat by omega, i3 j a (by omega), e]) q2
    have hset : ∀ {b : Nat} {ds ds' : List D} {c : List Int} {a : Int}, ds = dsI c → c.length = n → ds' = ds.take b ++ [.int a] ++ ds.drop (b + 1) → b = 0 + i.toNat * 1 → ds' = dsI (c.set i.toNat a) := fun {b ds ds' c a} h0 hl h1 h2 =>
      dsI_set h0 (by omega) (by rw [h1, show b = i.toNat by omega])
    have hse1 : ∀ {b : Nat} {ds' : List D} {a : Int}, ds' = ds1.take b ++ [.int a] ++ ds1.drop (b + 1) → b = 0 + i.toNat * 1 → ds' = dsI (c0.set i.toNat a) ∧ ds'.length = n := fun {b ds' a} h1 h2 => by
      have := hset hd1 i2 h1 h2
      exact ⟨this, by rw [this, dsI_len, List.length_set, i2]⟩
    have hld2 : ∀ {b b' : Nat} {ds' : List D} {a : Int} {c : D}, ds' = ds1.take b ++ [.int a] ++ ds1.drop (b + 1) → b = 0 + i.toNat * 1 → b' = 0 + i.toNat * 1 → c = ds'.getD b' default → c = .int a := fun {b b' ds' a c} h1 h2 h3 h4 =>
      dsI_get (hse1 h1 h2).1 (by rw [show b' = i.toNat by omega, List.getElem?_set_self (by omega)]) h4
    have hK2 : ∀ (ds' ds2 : List D) (a v : Int) (b b' : Nat) (env : List (Nat × D)) (o3 : O), ds' = ds1.take b ++ [.int a] ++ ds1.drop (b + 1) → b = 0 + i.toNat * 1 → ds2 = ds'.take b' ++ [.int v] ++ ds'.drop (b' + 1) → b' = 0 + i.toNat * 1 → v = w → subL [(15, .int (i + 1)), (14, .int ze), (13, .e (.sl x)), (5, .bs 2 0 n 1), (3, .ref 1 0)] env → Kk ⟨env, [.box [.e (.sl x)], .box [.e (.sl xt)], .box ds2, o3]⟩ := fun ds' ds2 a v b b' env o3 h1 h2 h3 h4 hv hs => by
      have e2 : ds2 = dsI (c0.set i.toNat v) := by
        have := hset (hse1 h1 h2).1 (by rw [List.length_set, i2]) h3 h4
        rw [List.set_set] at this
        exact this
      refine hK _ (m - 1) _ (by omega) (Weak.ren (l0 := []) [0, 1, 2] (fun t => [(15, .int (i + 1)), (14, .int ze), (13, .e (.sl x)), (5, .bs (t 2) 0 n 1), (3, .ref (t 1) 0)]) (fun t => [.box [.e (.sl x)], .box [.e (.sl xt)], .box ds2]) rfl ?_ ⟨rfl, rfl, rfl, trivial⟩ (rb_side e2 (fun t => rfl) rfl))
        ⟨i + 1, c0.set i.toNat v, ds2, by omega, by omega, by simp [i2], fun j a b => ?_, e2, rfl⟩
      · obtain ⟨w1, w2, w3, w4, w5, _⟩ := hs
        exact ⟨.inl w1, .inl w2, .inl w3, .inl w4, .inl w5, trivial⟩
      · by_cases hji : j < i
        · rw [List.getElem?_set_ne (show i.toNat ≠ j.toNat by omega)]; exact i3 j a hji
        · rw [show j = i by omega, List.getElem?_set_self (by omega), hv, hw]
    rcases (show K = 1 ∨ K = 2 ∨ (K = 5 ∨ K = 6) ∨ K = 10 ∨ (K = 3 ∨ K = 4 ∨ K = 7 ∨ K = 8 ∨ K = 9) by omega) with c | c | c | c | c
    · rw [if_pos c] at hsz
      have d1 := hct hc1 c; subst d1
      clear hc1 hc2 hc5 hc6 hc10
      have h250 := ok89 1
      rw [show capW 1 = 1 from rfl] at h250
      clear hK hlt hset hrg hscan hin hKL hKR hsc q0 qm hw hl hr i3
      cbv
      repeat' first | with_reducible rfl | (simp only [v1, v2, v5, v6, v10, e8]; cbv) | with_reducible refine And.intro ?_ ?_ | ((with_reducible intro hcc); first | (cases hcc; done) | skip) | ((with_reducible first | show goC _ _ _ _ _ _ _ _ | show goOps _ _ _ _ _ | show goD _ _ _ _ _ _); cbv) | ((with_reducible show okWr _ _ = _); rfl) | ((with_reducible refine hA.len x _ _ _ _ fun z hz hb => ?_); (have e6 := hze.trans hz.symm); subst e6; cbv) | ((with_reducible refine hA.row x i _ ⟨hi, fun row hrow => ?_⟩); rw [q1] at hrow; subst hrow; cbv) | ((with_reducible refine hA.st [_, _, _, _, _, _, _] _ _ _ _ ⟨?_, fun ds hds => ?_⟩); rotate_left; (have hds : ds = [.int K, .int T, .int M, .e (.sl xe), .e (.sl ye), .int L, .int R] := hds); subst hds; cbv) | ((with_reducible first | refine callK_f hA hP h250 ?_ ?_ ?_); exact rfl; exact rfl; cbv) | ((with_reducible refine hA.ld1 _ _ _ ⟨?_, fun c hc => ?_⟩); rotate_left; (first | (have e9 := hld2 hds (by assumption) hb hc; subst e9)); cbv) | ((with_reducible first | refine hA.fin_pl _ _ _ ?_ | refine hA.len _ _ _ _ _ fun z hz hb => ?_ | refine hA.off _ _ _ _ fun b hb => ?_ | refine hA.plus _ _ _ fun b hb => ?_ | refine hA.rep _ _ _ fun ds m hds hm => ?_ | refine hA.alt _ _ (Or.inl ?_)); cbv) | ((with_reducible first | refine hA.st _ _ _ _ _ ⟨?_, fun ds hds => ?_⟩ | refine hA.sapp _ _ _ ⟨?_, fun sl hsl => ?_⟩); rotate_left; cbv) | (simp only [hA.lits]; cbv)
      all_goals try simp only [hA.ar, inR, n_cast, Int.ofNat_eq_natCast, Option.getD_some, Option.getD_none] at *
      all_goals first
        | omega
        | trivial
        | exact hK2 _ _ _ _ _ _ _ _ (by assumption) (by assumption) (by assumption) (by assumption) hsz.symm ⟨rfl, rfl, rfl, rfl, rfl, trivial⟩
        | (simp; done)
        | (rw [(hse1 (by assumption) (by assumption)).2]; omega)
        | (trace_state; fail)
    · rw [if_neg (by omega), if_pos c] at hsz
      have d1 := hcl hc1 (by omega); have d2 := hct hc2 c; subst d1; subst d2
      have hT : (0 : Int) ≤ T ∧ T < xt.length := by have := hsc c; omega
      obtain ⟨ps, pc, px, q3, hpx⟩ := tb_rows hxt hT
      rw [← hpx] at hsz
      obtain ⟨zx, hzx⟩ : ∃ z : Int, z = px.length := ⟨_, rfl⟩
      rw [← hzx] at hsz
      clear hc1 hc2 hc5 hc6 hc10
      have h250 := ok89 zx
      obtain ⟨cz, hcz⟩ : ∃ c, c = capW zx := ⟨_, rfl⟩
      rw [← hcz] at h250 hsz
      clear hK hlt hset hrg hscan hin hKL hKR hsc q0 qm hw hl hr i3
      cbv
      repeat' first | with_reducible rfl | (simp only [v1, v2, v5, v6, v10, e8]; cbv) | with_reducible refine And.intro ?_ ?_ | ((with_reducible intro hcc); first | (cases hcc; done) | skip) | ((with_reducible first | show goC _ _ _ _ _ _ _ _ | show goOps _ _ _ _ _ | show goD _ _ _ _ _ _); cbv) | ((with_reducible show okWr _ _ = _); rfl) | ((with_reducible refine hA.len x _ _ _ _ fun z hz hb => ?_); (have e6 := hze.trans hz.symm); subst e6; cbv) | ((with_reducible refine hA.row x i _ ⟨hi, fun row hrow => ?_⟩); rw [q1] at hrow; subst hrow; cbv) | ((with_reducible refine hA.st [_, _, _, _, _, _, _] _ _ _ _ ⟨?_, fun ds hds => ?_⟩); rotate_left; (have hds : ds = [.int K, .int T, .int M, .e (.sl xe), .e (.sl ye), .int L, .int R] := hds); subst hds; cbv) | ((with_reducible first | refine callK_f hA hP h250 ?_ ?_ ?_); exact rfl; exact rfl; cbv) | ((with_reducible refine hA.row xt T _ ⟨hT, fun row hrow => ?_⟩); rw [q3] at hrow; subst hrow; cbv) | ((with_reducible refine hA.len px _ _ _ _ fun z hz hb => ?_); (have e6 := hzx.trans hz.symm); subst e6; cbv) | ((with_reducible refine hA.ld1 _ _ _ ⟨?_, fun c hc => ?_⟩); rotate_left; (first | (have e9 := hld2 hds (by assumption) hb hc; subst e9)); cbv) | ((with_reducible first | refine hA.fin_pl _ _ _ ?_ | refine hA.len _ _ _ _ _ fun z hz hb => ?_ | refine hA.off _ _ _ _ fun b hb => ?_ | refine hA.plus _ _ _ fun b hb => ?_ | refine hA.rep _ _ _ fun ds m hds hm => ?_ | refine hA.alt _ _ (Or.inl ?_)); cbv) | ((with_reducible first | refine hA.st _ _ _ _ _ ⟨?_, fun ds hds => ?_⟩ | refine hA.sapp _ _ _ ⟨?_, fun sl hsl => ?_⟩); rotate_left; cbv) | (simp only [hA.lits]; cbv)
      all_goals try simp only [hA.ar, inR, n_cast, Int.ofNat_eq_natCast, Option.getD_some, Option.getD_none] at *
      all_goals first
        | omega
        | trivial
        | exact hK2 _ _ _ _ _ _ _ _ (by assumption) (by assumption) (by assumption) (by assumption) hsz.symm ⟨rfl, rfl, rfl, rfl, rfl, trivial⟩
        | (simp; done)
        | (rw [(hse1 (by assumption) (by assumption)).2]; omega)
        | (trace_state; fail)
    · rw [if_neg (by omega), if_neg (by omega), if_pos c] at hsz
      have d1 := hcl hc1 (by omega); have d2 := hcl hc2 (by omega); subst d1; subst d2
      have kl := hKL (by simp [hasL]; omega)
      have kr := hKR (by simp [hasR]; omega)
      have gl := hrg L kl.1 (by omega)
      have gr := hrg R kr.1 (by omega)
      rw [← hl] at gl
      rw [← hr] at gr
      have hlr0 := Int.mul_nonneg gl.1 gr.1
      have hlr1 : l * r ≤ 2001 * 2001 := Int.mul_le_mul gl.2 gr.2 gr.1 (by omega)
      obtain ⟨lr, hlr⟩ : ∃ z, z = A.mul l r := ⟨_, rfl⟩
      have hlr2 : lr = l * r := by rw [hlr, hA.mul]
      rw [← hlr2] at hsz hlr0 hlr1
      rcases c with c | c
      · have d5 := hct hc5 c; subst d5
        clear hc1 hc2 hc5 hc6 hc10
        have h250 := ok89 lr
        obtain ⟨cz, hcz⟩ : ∃ c, c = capW lr := ⟨_, rfl⟩
        rw [← hcz] at h250 hsz
        have ldL : ∀ {b : Nat} {c : D}, b = 0 + L.toNat * 1 → c = ds1.getD b default → c = .int l := hlt kl.1 kl.2 hl
        have ldR : ∀ {b : Nat} {c : D}, b = 0 + R.toNat * 1 → c = ds1.getD b default → c = .int r := hlt kr.1 kr.2 hr
        clear hK hlt hset hrg hscan hin hKL hKR hsc q0 qm hw hl hr i3
        cbv
        repeat' first | with_reducible rfl | (simp only [v1, v2, v5, v6, v10, e8, ← hlr]; cbv) | with_reducible refine And.intro ?_ ?_ | ((with_reducible intro hcc); first | (cases hcc; done) | skip) | ((with_reducible first | show goC _ _ _ _ _ _ _ _ | show goOps _ _ _ _ _ | show goD _ _ _ _ _ _); cbv) | ((with_reducible show okWr _ _ = _); rfl) | ((with_reducible refine hA.len x _ _ _ _ fun z hz hb => ?_); (have e6 := hze.trans hz.symm); subst e6; cbv) | ((with_reducible refine hA.row x i _ ⟨hi, fun row hrow => ?_⟩); rw [q1] at hrow; subst hrow; cbv) | ((with_reducible refine hA.st [_, _, _, _, _, _, _] _ _ _ _ ⟨?_, fun ds hds => ?_⟩); rotate_left; (have hds : ds = [.int K, .int T, .int M, .e (.sl xe), .e (.sl ye), .int L, .int R] := hds); subst hds; cbv) | ((with_reducible first | refine callK_f hA hP h250 ?_ ?_ ?_); exact rfl; exact rfl; cbv) | ((with_reducible refine hA.ld1 _ _ _ ⟨?_, fun c hc => ?_⟩); rotate_left; (first | (have e9 := ldL hb hc; subst e9) | (have e9 := ldR hb hc; subst e9) | (have e9 := hld2 hds (by assumption) hb hc; subst e9)); cbv) | ((with_reducible first | refine hA.fin_pl _ _ _ ?_ | refine hA.len _ _ _ _ _ fun z hz hb => ?_ | refine hA.off _ _ _ _ fun b hb => ?_ | refine hA.plus _ _ _ fun b hb => ?_ | refine hA.rep _ _ _ fun ds m hds hm => ?_ | refine hA.alt _ _ (Or.inl ?_)); cbv) | ((with_reducible first | refine hA.st _ _ _ _ _ ⟨?_, fun ds hds => ?_⟩ | refine hA.sapp _ _ _ ⟨?_, fun sl hsl => ?_⟩); rotate_left; cbv) | (simp only [hA.lits]; cbv)
        all_goals try simp only [hA.ar, inR, n_cast, Int.ofNat_eq_natCast, Option.getD_some, Option.getD_none] at *
        all_goals first
          | omega
          | trivial
          | exact hK2 _ _ _ _ _ _ _ _ (by assumption) (by assumption) (by assumption) (by assumption) hsz.symm ⟨rfl, rfl, rfl, rfl, rfl, trivial⟩
          | (simp; done)
          | (rw [(hse1 (by assumption) (by assumption)).2]; omega)
          | (trace_state; fail)
      · have d5 := hcl hc5 (by omega); have d6 := hct hc6 c; subst d5; subst d6
        clear hc1 hc2 hc5 hc6 hc10
        have h250 := ok89 lr
        obtain ⟨cz, hcz⟩ : ∃ c, c = capW lr := ⟨_, rfl⟩
        rw [← hcz] at h250 hsz
        have ldL : ∀ {b : Nat} {c : D}, b = 0 + L.toNat * 1 → c = ds1.getD b default → c = .int l := hlt kl.1 kl.2 hl
        have ldR : ∀ {b : Nat} {c : D}, b = 0 + R.toNat * 1 → c = ds1.getD b default → c = .int r := hlt kr.1 kr.2 hr
        clear hK hlt hset hrg hscan hin hKL hKR hsc q0 qm hw hl hr i3
        cbv
        repeat' first | with_reducible rfl | (simp only [v1, v2, v5, v6, v10, e8, ← hlr]; cbv) | with_reducible refine And.intro ?_ ?_ | ((with_reducible intro hcc); first | (cases hcc; done) | skip) | ((with_reducible first | show goC _ _ _ _ _ _ _ _ | show goOps _ _ _ _ _ | show goD _ _ _ _ _ _); cbv) | ((with_reducible show okWr _ _ = _); rfl) | ((with_reducible refine hA.len x _ _ _ _ fun z hz hb => ?_); (have e6 := hze.trans hz.symm); subst e6; cbv) | ((with_reducible refine hA.row x i _ ⟨hi, fun row hrow => ?_⟩); rw [q1] at hrow; subst hrow; cbv) | ((with_reducible refine hA.st [_, _, _, _, _, _, _] _ _ _ _ ⟨?_, fun ds hds => ?_⟩); rotate_left; (have hds : ds = [.int K, .int T, .int M, .e (.sl xe), .e (.sl ye), .int L, .int R] := hds); subst hds; cbv) | ((with_reducible first | refine callK_f hA hP h250 ?_ ?_ ?_); exact rfl; exact rfl; cbv) | ((with_reducible refine hA.ld1 _ _ _ ⟨?_, fun c hc => ?_⟩); rotate_left; (first | (have e9 := ldL hb hc; subst e9) | (have e9 := ldR hb hc; subst e9) | (have e9 := hld2 hds (by assumption) hb hc; subst e9)); cbv) | ((with_reducible first | refine hA.fin_pl _ _ _ ?_ | refine hA.len _ _ _ _ _ fun z hz hb => ?_ | refine hA.off _ _ _ _ fun b hb => ?_ | refine hA.plus _ _ _ fun b hb => ?_ | refine hA.rep _ _ _ fun ds m hds hm => ?_ | refine hA.alt _ _ (Or.inl ?_)); cbv) | ((with_reducible first | refine hA.st _ _ _ _ _ ⟨?_, fun ds hds => ?_⟩ | refine hA.sapp _ _ _ ⟨?_, fun sl hsl => ?_⟩); rotate_left; cbv) | (simp only [hA.lits]; cbv)
        all_goals try simp only [hA.ar, inR, n_cast, Int.ofNat_eq_natCast, Option.getD_some, Option.getD_none] at *
        all_goals first
          | omega
          | trivial
          | exact hK2 _ _ _ _ _ _ _ _ (by assumption) (by assumption) (by assumption) (by assumption) hsz.symm ⟨rfl, rfl, rfl, rfl, rfl, trivial⟩
          | (simp; done)
          | (rw [(hse1 (by assumption) (by assumption)).2]; omega)
          | (trace_state; fail)
    · rw [if_neg (by omega), if_neg (by omega), if_neg (by omega), if_pos c] at hsz
      have d1 := hcl hc1 (by omega); have d2 := hcl hc2 (by omega); have d5 := hcl hc5 (by omega); have d6 := hcl hc6 (by omega); have d10 := hct hc10 c; subst d1; subst d2; subst d5; subst d6; subst d10
      have kl := hKL (by simp [hasL]; omega)
      have kr := hKR (by simp [hasR]; omega)
      have gl := hrg L kl.1 (by omega)
      have gr := hrg R kr.1 (by omega)
      rw [← hl] at gl
      rw [← hr] at gr
      obtain ⟨lr, hlr⟩ : ∃ z, z = A.add l r := ⟨_, rfl⟩
      have hlr2 : lr = l + r := by rw [hlr, hA.add]
      rw [← hlr2] at hsz
      have hlr0 : 0 ≤ lr := by omega
      have hlr1 : lr ≤ 2001 * 2001 := by omega
      clear hc1 hc2 hc5 hc6 hc10
      have h250 := ok89 lr
      obtain ⟨cz, hcz⟩ : ∃ c, c = capW lr := ⟨_, rfl⟩
      rw [← hcz] at h250 hsz
      have ldL : ∀ {b : Nat} {c : D}, b = 0 + L.toNat * 1 → c = ds1.getD b default → c = .int l := hlt kl.1 kl.2 hl
      have ldR : ∀ {b : Nat} {c : D}, b = 0 + R.toNat * 1 → c = ds1.getD b default → c = .int r := hlt kr.1 kr.2 hr
      clear hK hlt hset hrg hscan hin hKL hKR hsc q0 qm hw hl hr i3
      cbv
      repeat' first | with_reducible rfl | (simp only [v1, v2, v5, v6, v10, e8, ← hlr]; cbv) | with_reducible refine And.intro ?_ ?_ | ((with_reducible intro hcc); first | (cases hcc; done) | skip) | ((with_reducible first | show goC _ _ _ _ _ _ _ _ | show goOps _ _ _ _ _ | show goD _ _ _ _ _ _); cbv) | ((with_reducible show okWr _ _ = _); rfl) | ((with_reducible refine hA.len x _ _ _ _ fun z hz hb => ?_); (have e6 := hze.trans hz.symm); subst e6; cbv) | ((with_reducible refine hA.row x i _ ⟨hi, fun row hrow => ?_⟩); rw [q1] at hrow; subst hrow; cbv) | ((with_reducible refine hA.st [_, _, _, _, _, _, _] _ _ _ _ ⟨?_, fun ds hds => ?_⟩); rotate_left; (have hds : ds = [.int K, .int T, .int M, .e (.sl xe), .e (.sl ye), .int L, .int R] := hds); subst hds; cbv) | ((with_reducible first | refine callK_f hA hP h250 ?_ ?_ ?_); exact rfl; exact rfl; cbv) | ((with_reducible refine hA.ld1 _ _ _ ⟨?_, fun c hc => ?_⟩); rotate_left; (first | (have e9 := ldL hb hc; subst e9) | (have e9 := ldR hb hc; subst e9) | (have e9 := hld2 hds (by assumption) hb hc; subst e9)); cbv) | ((with_reducible first | refine hA.fin_pl _ _ _ ?_ | refine hA.len _ _ _ _ _ fun z hz hb => ?_ | refine hA.off _ _ _ _ fun b hb => ?_ | refine hA.plus _ _ _ fun b hb => ?_ | refine hA.rep _ _ _ fun ds m hds hm => ?_ | refine hA.alt _ _ (Or.inl ?_)); cbv) | ((with_reducible first | refine hA.st _ _ _ _ _ ⟨?_, fun ds hds => ?_⟩ | refine hA.sapp _ _ _ ⟨?_, fun sl hsl => ?_⟩); rotate_left; cbv) | (simp only [hA.lits]; cbv)
      all_goals try simp only [hA.ar, inR, n_cast, Int.ofNat_eq_natCast, Option.getD_some, Option.getD_none] at *
      all_goals first
        | omega
        | trivial
        | exact hK2 _ _ _ _ _ _ _ _ (by assumption) (by assumption) (by assumption) (by assumption) hsz.symm ⟨rfl, rfl, rfl, rfl, rfl, trivial⟩
        | (simp; done)
        | (rw [(hse1 (by assumption) (by assumption)).2]; omega)
        | (trace_state; fail)
    · rw [if_neg (by omega), if_neg (by omega), if_neg (by omega), if_neg (by omega)] at hsz
      have d1 := hcl hc1 (by omega); have d2 := hcl hc2 (by omega); have d5 := hcl hc5 (by omega); have d6 := hcl hc6 (by omega); have d10 := hcl hc10 (by omega); subst d1; subst d2; subst d5; subst d6; subst d10
      have kl := hKL (by simp [hasL]; omega)
      have gl := hrg L kl.1 (by omega)
      rw [← hl] at gl
      clear hc1 hc2 hc5 hc6 hc10
      have h250 := ok89 l
      rw [capW_id gl.2] at h250
      have ldL : ∀ {b : Nat} {c : D}, b = 0 + L.toNat * 1 → c = ds1.getD b default → c = .int l := hlt kl.1 kl.2 hl
      clear hK hlt hset hrg hscan hin hKL hKR hsc q0 qm hw hl hr i3
      cbv
      repeat' first | with_reducible rfl | (simp only [v1, v2, v5, v6, v10, e8]; cbv) | with_reducible refine And.intro ?_ ?_ | ((with_reducible intro hcc); first | (cases hcc; done) | skip) | ((with_reducible first | show goC _ _ _ _ _ _ _ _ | show goOps _ _ _ _ _ | show goD _ _ _ _ _ _); cbv) | ((with_reducible show okWr _ _ = _); rfl) | ((with_reducible refine hA.len x _ _ _ _ fun z hz hb => ?_); (have e6 := hze.trans hz.symm); subst e6; cbv) | ((with_reducible refine hA.row x i _ ⟨hi, fun row hrow => ?_⟩); rw [q1] at hrow; subst hrow; cbv) | ((with_reducible refine hA.st [_, _, _, _, _, _, _] _ _ _ _ ⟨?_, fun ds hds => ?_⟩); rotate_left; (have hds : ds = [.int K, .int T, .int M, .e (.sl xe), .e (.sl ye), .int L, .int R] := hds); subst hds; cbv) | ((with_reducible first | refine callK_f hA hP h250 ?_ ?_ ?_); exact rfl; exact rfl; cbv) | ((with_reducible refine hA.ld1 _ _ _ ⟨?_, fun c hc => ?_⟩); rotate_left; (first | (have e9 := ldL hb hc; subst e9) | (have e9 := hld2 hds (by assumption) hb hc; subst e9)); cbv) | ((with_reducible first | refine hA.fin_pl _ _ _ ?_ | refine hA.len _ _ _ _ _ fun z hz hb => ?_ | refine hA.off _ _ _ _ fun b hb => ?_ | refine hA.plus _ _ _ fun b hb => ?_ | refine hA.rep _ _ _ fun ds m hds hm => ?_ | refine hA.alt _ _ (Or.inl ?_)); cbv) | ((with_reducible first | refine hA.st _ _ _ _ _ ⟨?_, fun ds hds => ?_⟩ | refine hA.sapp _ _ _ ⟨?_, fun sl hsl => ?_⟩); rotate_left; cbv) | (simp only [hA.lits]; cbv)
      all_goals try simp only [hA.ar, inR, n_cast, Int.ofNat_eq_natCast, Option.getD_some, Option.getD_none] at *
      all_goals first
        | omega
        | trivial
        | exact hK2 _ _ _ _ _ _ _ _ (by assumption) (by assumption) (by assumption) (by assumption) hsz.symm ⟨rfl, rfl, rfl, rfl, rfl, trivial⟩
        | (simp; done)
        | (rw [(hse1 (by assumption) (by assumption)).2]; omega)
        | (trace_state; fail))
end Go.Proofs.Ytfplalbognalkaa.Ab
