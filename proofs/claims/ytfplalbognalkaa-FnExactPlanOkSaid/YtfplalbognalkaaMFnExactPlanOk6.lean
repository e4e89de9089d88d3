/- Plans: the operators made, by the program. -/
import Derived.Test.YtfplalbognalkaaMFnExactPlanOk5
set_option linter.unusedSimpArgs false
set_option linter.unusedVariables false
set_option linter.unnecessarySimpa false
set_option linter.constructorNameAsVariable false
namespace Go.Proofs.Ytfplalbognalkaa.Ab
open Go
theorem nd_sm {d : Pd} {ts : List Tb} {env : Int} {l r o : Ot} (h : ndO d ts env l r = some o) (hl : l.sm ∧ 0 ≤ l.w ∧ l.w ≤ 200) (hr : r.sm ∧ 0 ≤ r.w ∧ r.w ≤ 200) (hx : d.Exs.length ≤ 1048576) (hct : ∀ t : Int, 0 ≤ t → t < ts.length → 0 ≤ colsOf ts t ∧ colsOf ts t ≤ 1000) :
    o.sm ∧ 0 ≤ o.w ∧ o.w ≤ 1048576 := by
  obtain ⟨hl1, hl2, hl3⟩ := hl
  obtain ⟨hr1, hr2, hr3⟩ := hr
  unfold ndO at h
  repeat' split at h
  all_goals first
    | (cases h; done)
    | (cases h; simp only [Ot.sm, Ot.w]; exact ⟨trivial, by omega⟩)
    | (cases h
       rename_i h2
       have := hct d.T (by omega) (by omega)
       simp only [Ot.sm, Ot.w]
       unfold colsOf at this
       exact ⟨by omega, by omega⟩)
    | (cases h; simp only [Ot.sm, Ot.w]; exact ⟨hl1, by omega⟩)
    | (cases h; simp only [Ot.sm, Ot.w]; exact ⟨⟨hx, hl1⟩, by omega⟩)
    | (cases h; simp only [Ot.sm, Ot.w]; exact ⟨⟨by omega, hl1, hr1⟩, by omega⟩)
    | (cases h; simp only [Ot.sm, Ot.w]; exact ⟨⟨hl1, hr1⟩, by omega⟩)
theorem mk_sm {ns : List Pd} {ts : List Tb} (hlen : ∀ d ∈ ns, d.Exs.length ≤ 1048576) (hct : ∀ t : Int, 0 ≤ t → t < ts.length → 0 ≤ colsOf ts t ∧ colsOf ts t ≤ 1000) :
    ∀ (n : Nat) (i env : Int) (o : Ot), 0 ≤ env → mkO ns ts n i env = some o → o.sm ∧ 0 ≤ o.w ∧ o.w + env ≤ 200
  | 0, _, _, _, _, h => by cases h
  | n + 1, i, env, o, he, h => by
    have ih := mk_sm hlen hct n
    obtain ⟨d, hd⟩ : ∃ d, d = ns.getD i.toNat default := ⟨_, rfl⟩
    have hx : d.Exs.length ≤ 1048576 := by
      rw [hd, List.getD]
      cases e : ns[i.toNat]? with
      | none => simp [default, instInhabitedPd.default]
      | some a => exact hlen a (List.mem_of_getElem? e)
    simp only [mkO] at h
    rw [← hd] at h
    split at h
    · cases h
    · cases hl : (if hasL d.K = true then mkO ns ts n d.L env else some Ot.unit) with
      | none => rw [hl] at h; cases h
      | some l =>
        rw [hl] at h
        simp only at h
        have hl2 : l.sm ∧ 0 ≤ l.w ∧ l.w + env ≤ 200 ∨ (l.sm ∧ l.w = 0) := by
          split at hl
          · exact .inl (ih _ _ _ he hl)
          · cases hl; exact .inr ⟨trivial, rfl⟩
        cases hr : (if hasR d.K = true then mkO ns ts n d.R (if depK d.K = true then env + l.w else env) else some Ot.unit) with
        | none => rw [hr] at h; cases h
        | some r =>
          rw [hr] at h
          simp only at h
          have hr2 : r.sm ∧ 0 ≤ r.w ∧ r.w ≤ 200 := by
            split at hr
            · have := ih _ _ _ (by split <;> omega) hr
              refine ⟨this.1, this.2.1, ?_⟩
              have := this.2.2
              split at this <;> omega
            · cases hr; exact ⟨trivial, by simp [Ot.w]⟩
          cases ho : ndO d ts env l r with
          | none => rw [ho] at h; cases h
          | some o' =>
            rw [ho] at h
            simp only at h
            split at h
            · cases h
            · cases h
              have := nd_sm ho (by rcases hl2 with h | h <;> exact ⟨h.1, by omega⟩) hr2 hx hct
              exact ⟨this.1, this.2.1, by omega⟩
theorem wid_of {o : Ot} (h : o.sm) (hw : 0 ≤ o.w ∧ o.w ≤ 1048576) : ∃ T c w, o.E = .ia T c ∧ o.w = w ∧ Wid T c w := ⟨_, _, _, Ot.E_eq o, rfl, wid_ok o h (by omega)⟩
theorem ok189 (K T M : Int) (Ex : List (Int × Int)) (Exs : List (List (Int × Int))) (L R : Int) (x y es xt xst : List (List E)) (hK : 1 ≤ K ∧ K ≤ 10) (hx : x = Ex.map orow) (hy : y = Exs.map orr) (ts : List Tb) (hxt : xt = ts.map tbr) (hxl : x.length ≤ 1048576) (hyl : y.length ≤ 1048576) (hel : ∀ e ∈ Exs, e.length ≤ 1048576) (env : Int) (he : 0 ≤ env ∧ env ≤ 400)
    (l r : Ot) (lE rE : E) (hl : hasL K = true → lE = l.E ∧ l.sm ∧ 0 ≤ l.w ∧ l.w ≤ 200) (hr : hasR K = true → rE = r.E ∧ r.sm ∧ 0 ≤ r.w ∧ r.w ≤ 200) :
    Plain Try.prog 189 [.agg [.e (.sl es), .e (.sl xt), .e (.sl xst)], .agg [.int K, .int T, .int M, .e (.sl x), .e (.sl y), .int L, .int R], .int env, .e lE, .e rE] (.e (optE (ndO ⟨K, T, M, Ex, Exs, L, R⟩ ts env l r))) := by
  rcases (show K = 1 ∨ K = 2 ∨ K = 3 ∨ K = 4 ∨ K = 5 ∨ K = 6 ∨ K = 7 ∨ K = 8 ∨ K = 9 ∨ K = 10 by omega) with rfl | rfl | rfl | rfl | rfl | rfl | rfl | rfl | rfl | rfl
  · exact ok323_1 T M Ex Exs L R x y es xt xst hx hy ts hxt hxl hyl hel env he l lE r rE
  · exact ok323_2 T M Ex Exs L R x y es xt xst hx hy ts hxt hxl hyl hel env he l lE r rE
  · obtain ⟨a1, a2, a3⟩ := hl rfl
    obtain ⟨T1, c1, w1, b1, b2, b3⟩ := wid_of a2 (by omega)
    rw [a1, b1]
    exact ok323_3 T M Ex Exs L R x y es xt xst hx hy ts hxt hxl hyl hel env he l T1 c1 w1 b1 b2 b3 (by omega) r rE
  · obtain ⟨a1, a2, a3⟩ := hl rfl
    obtain ⟨T1, c1, w1, b1, b2, b3⟩ := wid_of a2 (by omega)
    rw [a1, b1]
    exact ok323_4 T M Ex Exs L R x y es xt xst hx hy ts hxt hxl hyl hel env he l T1 c1 w1 b1 b2 b3 (by omega) r rE
  · obtain ⟨a1, a2, a3⟩ := hl rfl
    obtain ⟨T1, c1, w1, b1, b2, b3⟩ := wid_of a2 (by omega)
    rw [a1, b1]
    obtain ⟨a4, a5, a6⟩ := hr rfl
    obtain ⟨T2, c2, w2, b4, b5, b6⟩ := wid_of a5 (by omega)
    rw [a4, b4]
    exact ok323_5 T M Ex Exs L R x y es xt xst hx hy ts hxt hxl hyl hel env he l T1 c1 w1 b1 b2 b3 (by omega) r T2 c2 w2 b4 b5 b6 (by omega)
  · obtain ⟨a1, a2, a3⟩ := hl rfl
    obtain ⟨T1, c1, w1, b1, b2, b3⟩ := wid_of a2 (by omega)
    rw [a1, b1]
    obtain ⟨a4, a5, a6⟩ := hr rfl
    obtain ⟨T2, c2, w2, b4, b5, b6⟩ := wid_of a5 (by omega)
    rw [a4, b4]
    exact ok323_6 T M Ex Exs L R x y es xt xst hx hy ts hxt hxl hyl hel env he l T1 c1 w1 b1 b2 b3 (by omega) r T2 c2 w2 b4 b5 b6 (by omega)
  · obtain ⟨a1, a2, a3⟩ := hl rfl
    obtain ⟨T1, c1, w1, b1, b2, b3⟩ := wid_of a2 (by omega)
    rw [a1, b1]
    obtain ⟨a4, a5, a6⟩ := hr rfl
    obtain ⟨T2, c2, w2, b4, b5, b6⟩ := wid_of a5 (by omega)
    rw [a4, b4]
    exact ok323_7 T M Ex Exs L R x y es xt xst hx hy ts hxt hxl hyl hel env he l T1 c1 w1 b1 b2 b3 (by omega) r T2 c2 w2 b4 b5 b6 (by omega)
  · obtain ⟨a1, a2, a3⟩ := hl rfl
    obtain ⟨T1, c1, w1, b1, b2, b3⟩ := wid_of a2 (by omega)
    rw [a1, b1]
    obtain ⟨a4, a5, a6⟩ := hr rfl
    obtain ⟨T2, c2, w2, b4, b5, b6⟩ := wid_of a5 (by omega)
    rw [a4, b4]
    exact ok323_8 T M Ex Exs L R x y es xt xst hx hy ts hxt hxl hyl hel env he l T1 c1 w1 b1 b2 b3 (by omega) r T2 c2 w2 b4 b5 b6 (by omega)
  · obtain ⟨a1, a2, a3⟩ := hl rfl
    obtain ⟨T1, c1, w1, b1, b2, b3⟩ := wid_of a2 (by omega)
    rw [a1, b1]
    exact ok323_9 T M Ex Exs L R x y es xt xst hx hy ts hxt hxl hyl hel env he l T1 c1 w1 b1 b2 b3 (by omega) r rE
  · obtain ⟨a1, a2, a3⟩ := hl rfl
    obtain ⟨T1, c1, w1, b1, b2, b3⟩ := wid_of a2 (by omega)
    rw [a1, b1]
    obtain ⟨a4, a5, a6⟩ := hr rfl
    obtain ⟨T2, c2, w2, b4, b5, b6⟩ := wid_of a5 (by omega)
    rw [a4, b4]
    exact ok323_10 T M Ex Exs L R x y es xt xst hx hy ts hxt hxl hyl hel env he l T1 c1 w1 b1 b2 b3 (by omega) r T2 c2 w2 b4 b5 b6 (by omega)
set_option maxRecDepth 100000 in
set_option maxHeartbeats 8000000 in
theorem ok147 (ns : List Pd) (x : List (List E)) (hx : x = ns.map pdr) (hxl : x.length ≤ 1048576) (hlen : ∀ d ∈ ns, d.Ex.length ≤ 1048576 ∧ d.Exs.length ≤ 1048576 ∧ ∀ e ∈ d.Exs, e.length ≤ 1048576) (ts : List Tb) (xt : List (List E)) (hxt : xt = ts.map tbr) (hct : ∀ t : Int, 0 ≤ t → t < ts.length → 0 ≤ colsOf ts t ∧ colsOf ts t ≤ 1000) (hin : InP ns) (xst : List (List E)) :
    ∀ (n : Nat) (i env : Int), 0 ≤ i → i < n → i < x.length → 0 ≤ env → env ≤ 200 → Plain Try.prog 147 [.agg [.e (.sl x), .e (.sl xt), .e (.sl xst)], .int i, .int env] (.e (optE (mkO ns ts n i env))) := by
  intro n
  induction n with
  | zero => intro i env h1 h2; omega
  | succ n ih =>
    intro i env h1 h2 h3 he1 he2
    have hi : (0 : Int) ≤ i ∧ i < x.length := ⟨h1, h3⟩
    have hxn : x.length = ns.length := by rw [hx]; simp
    obtain ⟨K, T, M, Ex, Exs, L, R, xe, ye, q0, qm, hxe, hye, q1⟩ := pd_at hx hi
    obtain ⟨hK, hKL, hKR⟩ := hin i h1 (by omega)
    obtain ⟨z1, z2, z3⟩ := hlen _ qm
    rw [q0] at hK hKL hKR
    simp only at hK hKL hKR z1 z2 z3
    have hsm := mk_sm (fun d hd => (hlen d hd).2.1) hct n
    obtain ⟨res, hres⟩ : ∃ e, e = optE (mkO ns ts (n + 1) i env) := ⟨_, rfl⟩
    rw [← hres]
    simp only [mkO] at hres
    rw [q0] at hres
    simp only at hres
    refine okOf mixed p147 fun A P hA hP => ?_
    have h322 := ok188 K T M Ex Exs L R xe ye hxe hye
    obtain ⟨u, hu⟩ : ∃ b, b = usedI ⟨K, T, M, Ex, Exs, L, R⟩ := ⟨_, rfl⟩
    rw [← hu] at h322 hres
    have h251 := ok90 K
    have h252 := ok91 K
    have h253 := ok92 K
    have hLR : hasR K = true → hasL K = true := fun h => by simp [hasR] at h; simp [hasL]; omega
    have h323 := fun (l r : Ot) (lE rE : E) => ok189 K T M Ex Exs L R xe ye x xt xst hK hxe hye ts hxt (by rw [hxe, List.length_map]; exact z1) (by rw [hye, List.length_map]; exact z2) z3 env (by omega) l r lE rE
    obtain ⟨bL, hbL⟩ : ∃ b, b = hasL K := ⟨_, rfl⟩
    obtain ⟨bR, hbR⟩ : ∃ b, b = hasR K := ⟨_, rfl⟩
    obtain ⟨bD, hbD⟩ : ∃ b, b = depK K := ⟨_, rfl⟩
    rw [← hbL] at h251 hres hKL hLR h323
    rw [← hbR] at h252 hres hKR hLR h323
    rw [← hbD] at h253 hres
    have ihL : bL = true → Plain Try.prog 147 [.agg [.e (.sl x), .e (.sl xt), .e (.sl xst)], .int L, .int env] (.e (optE (mkO ns ts n L env))) := fun h => by
      have := hKL h
      exact ih L env this.1 (by omega) (by omega) he1 he2
    have ihR : ∀ env' : Int, bR = true → 0 ≤ env' → env' ≤ 200 → Plain Try.prog 147 [.agg [.e (.sl x), .e (.sl xt), .e (.sl xst)], .int R, .int env'] (.e (optE (mkO ns ts n R env'))) := fun env' h a b => by
      have := hKR h
      exact ih R env' this.1 (by omega) (by omega) a b
    have hsL := hsm L env
    have hsR := hsm R
    obtain ⟨gL, hgL⟩ : ∃ f : Option Ot, f = mkO ns ts n L env := ⟨_, rfl⟩
    obtain ⟨gR, hgR⟩ : ∃ f : Int → Option Ot, f = mkO ns ts n R := ⟨_, rfl⟩
    rw [← hgL] at ihL hres hsL
    rw [← hgR] at ihR hres hsR
    clear hu hbL hbR hbD hgL hgR ih hsm hin hlen q0 qm hKL hKR
    cases u
    case false =>
      have hr2 : res = .v .nilIface := by rw [hres, if_pos rfl]; rfl
      clear hres h323 ihL ihR hsL hsR
      cbv
      repeat' first | with_reducible rfl | with_reducible refine And.intro ?_ ?_ | ((with_reducible intro hcc); first | (cases hcc; done) | skip) | ((with_reducible show goC _ _ _ _ _ _ _ _); cbv) | ((with_reducible show goOps _ _ _ _ _); cbv) | ((with_reducible show goD _ _ _ _ _ _); cbv) | ((with_reducible show okWr _ _ = _); rfl) | ((with_reducible refine hA.row x i _ ⟨hi, fun row hrow => ?_⟩); rw [q1] at hrow; subst hrow; cbv) | ((with_reducible refine hA.st [_, _, _, _, _, _, _] _ _ _ _ ⟨?_, fun ds hds => ?_⟩); rotate_left; (have hds : ds = [.int K, .int T, .int M, .e (.sl xe), .e (.sl ye), .int L, .int R] := hds); subst hds; cbv) | ((with_reducible refine callK_eq hA hP ?_ ?_ ?_ (Wks.refl _) (fun _ _ => h322)); exact rfl; exact rfl; cbv) | ((with_reducible refine hA.fin_pl _ _ _ ?_); cbv) | ((with_reducible refine hA.off _ _ _ _ fun b hb => ?_); cbv) | ((with_reducible refine hA.plus _ _ _ fun b hb => ?_); cbv) | ((with_reducible refine hA.st _ _ _ _ _ ⟨?_, fun ds hds => ?_⟩); rotate_left; cbv) | ((with_reducible refine hA.sapp _ _ _ ⟨?_, fun sl hsl => ?_⟩); rotate_left; cbv) | ((with_reducible refine hA.gb0 true _ ?_); cbv) | ((with_reducible refine hA.gb0 false _ ?_); cbv) | ((with_reducible refine hA.gb _ _ fun vb hvb => ?_); cbv) | (simp only [hA.natLit, hA.natOf, hA.natCast]; cbv)
      all_goals try simp only [hA.add, hA.sub, hA.mul, hA.neg, hA.div, hA.mod, hA.mn, hA.mx, hA.eq, hA.lt, hA.le, hA.nat, hA.R, hA.lep, hA.ltp, hA.seq, inR, n_cast, Int.ofNat_eq_natCast, Option.getD_some, Option.getD_none] at *
      all_goals first | omega | rfl | trivial | (rw [hr2]; done) | (simp; done) | (trace_state; fail)
    case true =>
    rw [if_neg (by simp)] at hres
    cases bL
    · have hbR : bR = false := by cases bR <;> simp_all
      subst hbR
      rw [if_neg (by simp)] at hres
      simp only [Bool.false_eq_true, if_false] at hres
      have h323 := h323 (.unit) (.unit) (.v .nilIface) (.v .nilIface) (fun h => by cases h) (fun h => by cases h)
      cases ho : ndO ⟨K, T, M, Ex, Exs, L, R⟩ ts env (.unit) (.unit) with
      | none =>
        rw [ho] at h323 hres
        have h323 : Plain Try.prog 189 [.agg [.e (.sl x), .e (.sl xt), .e (.sl xst)], .agg [.int K, .int T, .int M, .e (.sl xe), .e (.sl ye), .int L, .int R], .int env, .e (.v .nilIface), .e (.v .nilIface)] (.e (.v .nilIface)) := h323
        have hr2 : res = .v .nilIface := hres
        clear hres hsL hsR ho
        cbv
        repeat' first | with_reducible rfl | with_reducible refine And.intro ?_ ?_ | ((with_reducible intro hcc); first | (cases hcc; done) | skip) | ((with_reducible show goC _ _ _ _ _ _ _ _); cbv) | ((with_reducible show goOps _ _ _ _ _); cbv) | ((with_reducible show goD _ _ _ _ _ _); cbv) | ((with_reducible show okWr _ _ = _); rfl) | ((with_reducible refine hA.row x i _ ⟨hi, fun row hrow => ?_⟩); rw [q1] at hrow; subst hrow; cbv) | ((with_reducible refine hA.st [_, _, _, _, _, _, _] _ _ _ _ ⟨?_, fun ds hds => ?_⟩); rotate_left; (have hds : ds = [.int K, .int T, .int M, .e (.sl xe), .e (.sl ye), .int L, .int R] := hds); subst hds; cbv) | ((with_reducible refine callK_eq hA hP ?_ ?_ ?_ (Wks.refl _) (fun _ _ => h322)); exact rfl; exact rfl; cbv) | ((with_reducible refine callK_eq hA hP ?_ ?_ ?_ (Wks.refl _) (fun _ _ => h251)); exact rfl; exact rfl; cbv) | ((with_reducible refine callK_eq hA hP ?_ ?_ ?_ (Wks.refl _) (fun _ _ => h252)); exact rfl; exact rfl; cbv) | ((with_reducible refine callK_eq hA hP ?_ ?_ ?_ (Wks.refl _) (fun _ _ => h253)); exact rfl; exact rfl; cbv) | ((with_reducible refine callK_eq hA hP ?_ ?_ ?_ (Wks.refl _) (fun _ _ => h323)); exact rfl; exact rfl; cbv) | ((with_reducible refine hA.anyd _ (.int 0) ?_); cbv) | ((with_reducible show A.call _ _ _ _ false _ _ _ _); refine callK_no hA (.int 0) ?_; cbv) | ((with_reducible refine hA.fin_pl _ _ _ ?_); cbv) | ((with_reducible refine hA.off _ _ _ _ fun b hb => ?_); cbv) | ((with_reducible refine hA.plus _ _ _ fun b hb => ?_); cbv) | ((with_reducible refine hA.st _ _ _ _ _ ⟨?_, fun ds hds => ?_⟩); rotate_left; cbv) | ((with_reducible refine hA.sapp _ _ _ ⟨?_, fun sl hsl => ?_⟩); rotate_left; cbv) | ((with_reducible refine hA.gb0 true _ ?_); cbv) | ((with_reducible refine hA.gb0 false _ ?_); cbv) | ((with_reducible refine hA.gb _ _ fun vb hvb => ?_); cbv) | (simp only [hA.natLit, hA.natOf, hA.natCast]; cbv)
        all_goals try simp only [hA.add, hA.sub, hA.mul, hA.neg, hA.div, hA.mod, hA.mn, hA.mx, hA.eq, hA.lt, hA.le, hA.nat, hA.R, hA.lep, hA.ltp, hA.seq, inR, n_cast, Int.ofNat_eq_natCast, Option.getD_some, Option.getD_none] at *
        all_goals first | omega | rfl | trivial | (rw [hr2]; done) | (simp; done) | exact gg1 _ | exact gg2 _ | exact gg3 _ | (trace_state; fail)
      | some o =>
        rw [ho] at h323 hres
        have hos := nd_sm ho ⟨trivial, by simp [Ot.w]⟩ ⟨trivial, by simp [Ot.w]⟩ z2 hct
        obtain ⟨T3, c3, w3, b1, b2, b3⟩ := wid_of hos.1 hos.2
        simp only [b2] at hres
        have h323 : Plain Try.prog 189 [.agg [.e (.sl x), .e (.sl xt), .e (.sl xst)], .agg [.int K, .int T, .int M, .e (.sl xe), .e (.sl ye), .int L, .int R], .int env, .e (.v .nilIface), .e (.v .nilIface)] (.e (.ia T3 c3)) := by rw [← b1]; exact h323
        obtain ⟨⟨fn3, d3, hd3, hfr3, hm3, hp3⟩⟩ := b3
        have hm3 : MRow P T3 "loop.example/s0035/impl.width" fn3 := hP ▸ hm3
        have hw3 : 0 ≤ w3 ∧ w3 ≤ 1048576 := by rw [← b2]; exact hos.2
        obtain ⟨ew, hew⟩ : ∃ z, z = A.add w3 env := ⟨_, rfl⟩
        have hew2 : ew = w3 + env := by rw [hew, hA.add]
        rw [← hew2] at hres
        by_cases h200 : 200 < ew
        · have vw : A.lt 200 ew = true := by rw [hA.lt]; exact decide_eq_true h200
          have hr2 : res = .v .nilIface := by rw [hres, if_pos h200]; rfl
          clear hres hsL hsR ho
          cbv
          repeat' first | with_reducible rfl | (simp only [vw]; cbv) | (simp only [← hew]; cbv) | with_reducible refine And.intro ?_ ?_ | ((with_reducible intro hcc); first | (cases hcc; done) | skip) | ((with_reducible show goC _ _ _ _ _ _ _ _); cbv) | ((with_reducible show goOps _ _ _ _ _); cbv) | ((with_reducible show goD _ _ _ _ _ _); cbv) | ((with_reducible show okWr _ _ = _); rfl) | ((with_reducible refine hA.row x i _ ⟨hi, fun row hrow => ?_⟩); rw [q1] at hrow; subst hrow; cbv) | ((with_reducible refine hA.st [_, _, _, _, _, _, _] _ _ _ _ ⟨?_, fun ds hds => ?_⟩); rotate_left; (have hds : ds = [.int K, .int T, .int M, .e (.sl xe), .e (.sl ye), .int L, .int R] := hds); subst hds; cbv) | ((with_reducible refine callK_eq hA hP ?_ ?_ ?_ (Wks.refl _) (fun _ _ => h322)); exact rfl; exact rfl; cbv) | ((with_reducible refine callK_eq hA hP ?_ ?_ ?_ (Wks.refl _) (fun _ _ => h251)); exact rfl; exact rfl; cbv) | ((with_reducible refine callK_eq hA hP ?_ ?_ ?_ (Wks.refl _) (fun _ _ => h252)); exact rfl; exact rfl; cbv) | ((with_reducible refine callK_eq hA hP ?_ ?_ ?_ (Wks.refl _) (fun _ _ => h253)); exact rfl; exact rfl; cbv) | ((with_reducible refine callK_eq hA hP ?_ ?_ ?_ (Wks.refl _) (fun _ _ => h323)); exact rfl; exact rfl; cbv) | ((with_reducible refine hA.invk hm3 hd3 ?_); cbv) | ((with_reducible show A.call _ _ _ _ _ fn3 _ _ _); refine callK_eq hA hP hfr3 rfl ?_ (Wks.refl _) (fun _ _ => hp3); cbv) | ((with_reducible refine hA.fin_pl _ _ _ ?_); cbv) | ((with_reducible refine hA.off _ _ _ _ fun b hb => ?_); cbv) | ((with_reducible refine hA.plus _ _ _ fun b hb => ?_); cbv) | ((with_reducible refine hA.st _ _ _ _ _ ⟨?_, fun ds hds => ?_⟩); rotate_left; cbv) | ((with_reducible refine hA.sapp _ _ _ ⟨?_, fun sl hsl => ?_⟩); rotate_left; cbv) | ((with_reducible refine hA.gb0 true _ ?_); cbv) | ((with_reducible refine hA.gb0 false _ ?_); cbv) | ((with_reducible refine hA.gb _ _ fun vb hvb => ?_); cbv) | (simp only [hA.natLit, hA.natOf, hA.natCast]; cbv)
          all_goals try simp only [hA.add, hA.sub, hA.mul, hA.neg, hA.div, hA.mod, hA.mn, hA.mx, hA.eq, hA.lt, hA.le, hA.nat, hA.R, hA.lep, hA.ltp, hA.seq, inR, n_cast, Int.ofNat_eq_natCast, Option.getD_some, Option.getD_none] at *
          all_goals first | omega | rfl | trivial | (rw [hr2]; done) | (simp; done) | exact gg1 _ | exact gg2 _ | exact gg3 _ | (trace_state; fail)
        · have vw : A.lt 200 ew = false := by rw [hA.lt]; exact decide_eq_false h200
          have hr2 : res = .ia T3 c3 := by rw [hres, if_neg h200, optE, b1]
          clear hres hsL hsR ho
          cbv
          repeat' first | with_reducible rfl | (simp only [vw]; cbv) | (simp only [← hew]; cbv) | with_reducible refine And.intro ?_ ?_ | ((with_reducible intro hcc); first | (cases hcc; done) | skip) | ((with_reducible show goC _ _ _ _ _ _ _ _); cbv) | ((with_reducible show goOps _ _ _ _ _); cbv) | ((with_reducible show goD _ _ _ _ _ _); cbv) | ((with_reducible show okWr _ _ = _); rfl) | ((with_reducible refine hA.row x i _ ⟨hi, fun row hrow => ?_⟩); rw [q1] at hrow; subst hrow; cbv) | ((with_reducible refine hA.st [_, _, _, _, _, _, _] _ _ _ _ ⟨?_, fun ds hds => ?_⟩); rotate_left; (have hds : ds = [.int K, .int T, .int M, .e (.sl xe), .e (.sl ye), .int L, .int R] := hds); subst hds; cbv) | ((with_reducible refine callK_eq hA hP ?_ ?_ ?_ (Wks.refl _) (fun _ _ => h322)); exact rfl; exact rfl; cbv) | ((with_reducible refine callK_eq hA hP ?_ ?_ ?_ (Wks.refl _) (fun _ _ => h251)); exact rfl; exact rfl; cbv) | ((with_reducible refine callK_eq hA hP ?_ ?_ ?_ (Wks.refl _) (fun _ _ => h252)); exact rfl; exact rfl; cbv) | ((with_reducible refine callK_eq hA hP ?_ ?_ ?_ (Wks.refl _) (fun _ _ => h253)); exact rfl; exact rfl; cbv) | ((with_reducible refine callK_eq hA hP ?_ ?_ ?_ (Wks.refl _) (fun _ _ => h323)); exact rfl; exact rfl; cbv) | ((with_reducible refine hA.invk hm3 hd3 ?_); cbv) | ((with_reducible show A.call _ _ _ _ _ fn3 _ _ _); refine callK_eq hA hP hfr3 rfl ?_ (Wks.refl _) (fun _ _ => hp3); cbv) | ((with_reducible refine hA.fin_pl _ _ _ ?_); cbv) | ((with_reducible refine hA.off _ _ _ _ fun b hb => ?_); cbv) | ((with_reducible refine hA.plus _ _ _ fun b hb => ?_); cbv) | ((with_reducible refine hA.st _ _ _ _ _ ⟨?_, fun ds hds => ?_⟩); rotate_left; cbv) | ((with_reducible refine hA.sapp _ _ _ ⟨?_, fun sl hsl => ?_⟩); rotate_left; cbv) | ((with_reducible refine hA.gb0 true _ ?_); cbv) | ((with_reducible refine hA.gb0 false _ ?_); cbv) | ((with_reducible refine hA.gb _ _ fun vb hvb => ?_); cbv) | (simp only [hA.natLit, hA.natOf, hA.natCast]; cbv)
          all_goals try simp only [hA.add, hA.sub, hA.mul, hA.neg, hA.div, hA.mod, hA.mn, hA.mx, hA.eq, hA.lt, hA.le, hA.nat, hA.R, hA.lep, hA.ltp, hA.seq, inR, n_cast, Int.ofNat_eq_natCast, Option.getD_some, Option.getD_none] at *
          all_goals first | omega | rfl | trivial | (rw [hr2]; done) | (simp; done) | exact gg1 _ | exact gg2 _ | exact gg3 _ | (trace_state; fail)
    · rw [if_pos rfl] at hres
      have ihL := ihL rfl
      cases gL with
      | none =>
        have ihL : Plain Try.prog 147 [.agg [.e (.sl x), .e (.sl xt), .e (.sl xst)], .int L, .int env] (.e (.v .nilIface)) := ihL
        have hr2 : res = .v .nilIface := hres
        clear hres ihR hsL hsR h323
        cbv
        repeat' first | with_reducible rfl | with_reducible refine And.intro ?_ ?_ | ((with_reducible intro hcc); first | (cases hcc; done) | skip) | ((with_reducible show goC _ _ _ _ _ _ _ _); cbv) | ((with_reducible show goOps _ _ _ _ _); cbv) | ((with_reducible show goD _ _ _ _ _ _); cbv) | ((with_reducible show okWr _ _ = _); rfl) | ((with_reducible refine hA.row x i _ ⟨hi, fun row hrow => ?_⟩); rw [q1] at hrow; subst hrow; cbv) | ((with_reducible refine hA.st [_, _, _, _, _, _, _] _ _ _ _ ⟨?_, fun ds hds => ?_⟩); rotate_left; (have hds : ds = [.int K, .int T, .int M, .e (.sl xe), .e (.sl ye), .int L, .int R] := hds); subst hds; cbv) | ((with_reducible refine callK_eq hA hP ?_ ?_ ?_ (Wks.refl _) (fun _ _ => h322)); exact rfl; exact rfl; cbv) | ((with_reducible refine callK_eq hA hP ?_ ?_ ?_ (Wks.refl _) (fun _ _ => h251)); exact rfl; exact rfl; cbv) | ((with_reducible refine callK_eq hA hP ?_ ?_ ?_ (Wks.refl _) (fun _ _ => h252)); exact rfl; exact rfl; cbv) | ((with_reducible refine callK_eq hA hP ?_ ?_ ?_ (Wks.refl _) (fun _ _ => h253)); exact rfl; exact rfl; cbv) | ((with_reducible refine callK_eq hA hP ?_ ?_ ?_ (Wks.refl _) (fun _ _ => ihL)); exact rfl; exact rfl; cbv) | ((with_reducible refine hA.fin_pl _ _ _ ?_); cbv) | ((with_reducible refine hA.off _ _ _ _ fun b hb => ?_); cbv) | ((with_reducible refine hA.plus _ _ _ fun b hb => ?_); cbv) | ((with_reducible refine hA.st _ _ _ _ _ ⟨?_, fun ds hds => ?_⟩); rotate_left; cbv) | ((with_reducible refine hA.sapp _ _ _ ⟨?_, fun sl hsl => ?_⟩); rotate_left; cbv) | ((with_reducible refine hA.gb0 true _ ?_); cbv) | ((with_reducible refine hA.gb0 false _ ?_); cbv) | ((with_reducible refine hA.gb _ _ fun vb hvb => ?_); cbv) | (simp only [hA.natLit, hA.natOf, hA.natCast]; cbv)
        all_goals try simp only [hA.add, hA.sub, hA.mul, hA.neg, hA.div, hA.mod, hA.mn, hA.mx, hA.eq, hA.lt, hA.le, hA.nat, hA.R, hA.lep, hA.ltp, hA.seq, inR, n_cast, Int.ofNat_eq_natCast, Option.getD_some, Option.getD_none] at *
        all_goals first | omega | rfl | trivial | (rw [hr2]; done) | (simp; done) | exact gg1 _ | exact gg2 _ | exact gg3 _ | (trace_state; fail)
      | some l =>
        have hs1 := hsL l he1 rfl
        obtain ⟨T1, c1, w1, a1, a2, a3⟩ := wid_of hs1.1 (by omega)
        have ihL : Plain Try.prog 147 [.agg [.e (.sl x), .e (.sl xt), .e (.sl xst)], .int L, .int env] (.e (.ia T1 c1)) := by rw [← a1]; exact ihL
        simp only [a2] at hres
        cases bR
        · simp only [Bool.false_eq_true, if_false] at hres
          have h323 := h323 (l) (.unit) (.ia T1 c1) (.v .nilIface) (fun _ => ⟨a1.symm, hs1.1, by omega⟩) (fun h => by cases h)
          cases ho : ndO ⟨K, T, M, Ex, Exs, L, R⟩ ts env (l) (.unit) with
          | none =>
            rw [ho] at h323 hres
            have h323 : Plain Try.prog 189 [.agg [.e (.sl x), .e (.sl xt), .e (.sl xst)], .agg [.int K, .int T, .int M, .e (.sl xe), .e (.sl ye), .int L, .int R], .int env, .e (.ia T1 c1), .e (.v .nilIface)] (.e (.v .nilIface)) := h323
            have hr2 : res = .v .nilIface := hres
            clear hres hsL hsR ho
            cbv
            repeat' first | with_reducible rfl | with_reducible refine And.intro ?_ ?_ | ((with_reducible intro hcc); first | (cases hcc; done) | skip) | ((with_reducible show goC _ _ _ _ _ _ _ _); cbv) | ((with_reducible show goOps _ _ _ _ _); cbv) | ((with_reducible show goD _ _ _ _ _ _); cbv) | ((with_reducible show okWr _ _ = _); rfl) | ((with_reducible refine hA.row x i _ ⟨hi, fun row hrow => ?_⟩); rw [q1] at hrow; subst hrow; cbv) | ((with_reducible refine hA.st [_, _, _, _, _, _, _] _ _ _ _ ⟨?_, fun ds hds => ?_⟩); rotate_left; (have hds : ds = [.int K, .int T, .int M, .e (.sl xe), .e (.sl ye), .int L, .int R] := hds); subst hds; cbv) | ((with_reducible refine callK_eq hA hP ?_ ?_ ?_ (Wks.refl _) (fun _ _ => h322)); exact rfl; exact rfl; cbv) | ((with_reducible refine callK_eq hA hP ?_ ?_ ?_ (Wks.refl _) (fun _ _ => h251)); exact rfl; exact rfl; cbv) | ((with_reducible refine callK_eq hA hP ?_ ?_ ?_ (Wks.refl _) (fun _ _ => h252)); exact rfl; exact rfl; cbv) | ((with_reducible refine callK_eq hA hP ?_ ?_ ?_ (Wks.refl _) (fun _ _ => h253)); exact rfl; exact rfl; cbv) | ((with_reducible refine callK_eq hA hP ?_ ?_ ?_ (Wks.refl _) (fun _ _ => ihL)); exact rfl; exact rfl; cbv) | ((with_reducible refine callK_eq hA hP ?_ ?_ ?_ (Wks.refl _) (fun _ _ => h323)); exact rfl; exact rfl; cbv) | ((with_reducible refine hA.anyd _ (.int 0) ?_); cbv) | ((with_reducible show A.call _ _ _ _ false _ _ _ _); refine callK_no hA (.int 0) ?_; cbv) | ((with_reducible refine hA.fin_pl _ _ _ ?_); cbv) | ((with_reducible refine hA.off _ _ _ _ fun b hb => ?_); cbv) | ((with_reducible refine hA.plus _ _ _ fun b hb => ?_); cbv) | ((with_reducible refine hA.st _ _ _ _ _ ⟨?_, fun ds hds => ?_⟩); rotate_left; cbv) | ((with_reducible refine hA.sapp _ _ _ ⟨?_, fun sl hsl => ?_⟩); rotate_left; cbv) | ((with_reducible refine hA.gb0 true _ ?_); cbv) | ((with_reducible refine hA.gb0 false _ ?_); cbv) | ((with_reducible refine hA.gb _ _ fun vb hvb => ?_); cbv) | (simp only [hA.natLit, hA.natOf, hA.natCast]; cbv)
            all_goals try simp only [hA.add, hA.sub, hA.mul, hA.neg, hA.div, hA.mod, hA.mn, hA.mx, hA.eq, hA.lt, hA.le, hA.nat, hA.R, hA.lep, hA.ltp, hA.seq, inR, n_cast, Int.ofNat_eq_natCast, Option.getD_some, Option.getD_none] at *
            all_goals first | omega | rfl | trivial | (rw [hr2]; done) | (simp; done) | exact gg1 _ | exact gg2 _ | exact gg3 _ | (trace_state; fail)
          | some o =>
            rw [ho] at h323 hres
            have hos := nd_sm ho ⟨hs1.1, by omega⟩ ⟨trivial, by simp [Ot.w]⟩ z2 hct
            obtain ⟨T3, c3, w3, b1, b2, b3⟩ := wid_of hos.1 hos.2
            simp only [b2] at hres
            have h323 : Plain Try.prog 189 [.agg [.e (.sl x), .e (.sl xt), .e (.sl xst)], .agg [.int K, .int T, .int M, .e (.sl xe), .e (.sl ye), .int L, .int R], .int env, .e (.ia T1 c1), .e (.v .nilIface)] (.e (.ia T3 c3)) := by rw [← b1]; exact h323
            obtain ⟨⟨fn3, d3, hd3, hfr3, hm3, hp3⟩⟩ := b3
            have hm3 : MRow P T3 "loop.example/s0035/impl.width" fn3 := hP ▸ hm3
            have hw3 : 0 ≤ w3 ∧ w3 ≤ 1048576 := by rw [← b2]; exact hos.2
            obtain ⟨ew, hew⟩ : ∃ z, z = A.add w3 env := ⟨_, rfl⟩
            have hew2 : ew = w3 + env := by rw [hew, hA.add]
            rw [← hew2] at hres
            by_cases h200 : 200 < ew
            · have vw : A.lt 200 ew = true := by rw [hA.lt]; exact decide_eq_true h200
              have hr2 : res = .v .nilIface := by rw [hres, if_pos h200]; rfl
              clear hres hsL hsR ho
              cbv
              repeat' first | with_reducible rfl | (simp only [vw]; cbv) | (simp only [← hew]; cbv) | with_reducible refine And.intro ?_ ?_ | ((with_reducible intro hcc); first | (cases hcc; done) | skip) | ((with_reducible show goC _ _ _ _ _ _ _ _); cbv) | ((with_reducible show goOps _ _ _ _ _); cbv) | ((with_reducible show goD _ _ _ _ _ _); cbv) | ((with_reducible show okWr _ _ = _); rfl) | ((with_reducible refine hA.row x i _ ⟨hi, fun row hrow => ?_⟩); rw [q1] at hrow; subst hrow; cbv) | ((with_reducible refine hA.st [_, _, _, _, _, _, _] _ _ _ _ ⟨?_, fun ds hds => ?_⟩); rotate_left; (have hds : ds = [.int K, .int T, .int M, .e (.sl xe), .e (.sl ye), .int L, .int R] := hds); subst hds; cbv) | ((with_reducible refine callK_eq hA hP ?_ ?_ ?_ (Wks.refl _) (fun _ _ => h322)); exact rfl; exact rfl; cbv) | ((with_reducible refine callK_eq hA hP ?_ ?_ ?_ (Wks.refl _) (fun _ _ => h251)); exact rfl; exact rfl; cbv) | ((with_reducible refine callK_eq hA hP ?_ ?_ ?_ (Wks.refl _) (fun _ _ => h252)); exact rfl; exact rfl; cbv) | ((with_reducible refine callK_eq hA hP ?_ ?_ ?_ (Wks.refl _) (fun _ _ => h253)); exact rfl; exact rfl; cbv) | ((with_reducible refine callK_eq hA hP ?_ ?_ ?_ (Wks.refl _) (fun _ _ => ihL)); exact rfl; exact rfl; cbv) | ((with_reducible refine callK_eq hA hP ?_ ?_ ?_ (Wks.refl _) (fun _ _ => h323)); exact rfl; exact rfl; cbv) | ((with_reducible refine hA.invk hm3 hd3 ?_); cbv) | ((with_reducible show A.call _ _ _ _ _ fn3 _ _ _); refine callK_eq hA hP hfr3 rfl ?_ (Wks.refl _) (fun _ _ => hp3); cbv) | ((with_reducible refine hA.fin_pl _ _ _ ?_); cbv) | ((with_reducible refine hA.off _ _ _ _ fun b hb => ?_); cbv) | ((with_reducible refine hA.plus _ _ _ fun b hb => ?_); cbv) | ((with_reducible refine hA.st _ _ _ _ _ ⟨?_, fun ds hds => ?_⟩); rotate_left; cbv) | ((with_reducible refine hA.sapp _ _ _ ⟨?_, fun sl hsl => ?_⟩); rotate_left; cbv) | ((with_reducible refine hA.gb0 true _ ?_); cbv) | ((with_reducible refine hA.gb0 false _ ?_); cbv) | ((with_reducible refine hA.gb _ _ fun vb hvb => ?_); cbv) | (simp only [hA.natLit, hA.natOf, hA.natCast]; cbv)
              all_goals try simp only [hA.add, hA.sub, hA.mul, hA.neg, hA.div, hA.mod, hA.mn, hA.mx, hA.eq, hA.lt, hA.le, hA.nat, hA.R, hA.lep, hA.ltp, hA.seq, inR, n_cast, Int.ofNat_eq_natCast, Option.getD_some, Option.getD_none] at *
              all_goals first | omega | rfl | trivial | (rw [hr2]; done) | (simp; done) | exact gg1 _ | exact gg2 _ | exact gg3 _ | (trace_state; fail)
            · have vw : A.lt 200 ew = false := by rw [hA.lt]; exact decide_eq_false h200
              have hr2 : res = .ia T3 c3 := by rw [hres, if_neg h200, optE, b1]
              clear hres hsL hsR ho
              cbv
              repeat' first | with_reducible rfl | (simp only [vw]; cbv) | (simp only [← hew]; cbv) | with_reducible refine And.intro ?_ ?_ | ((with_reducible intro hcc); first | (cases hcc; done) | skip) | ((with_reducible show goC _ _ _ _ _ _ _ _); cbv) | ((with_reducible show goOps _ _ _ _ _); cbv) | ((with_reducible show goD _ _ _ _ _ _); cbv) | ((with_reducible show okWr _ _ = _); rfl) | ((with_reducible refine hA.row x i _ ⟨hi, fun row hrow => ?_⟩); rw [q1] at hrow; subst hrow; cbv) | ((with_reducible refine hA.st [_, _, _, _, _, _, _] _ _ _ _ ⟨?_, fun ds hds => ?_⟩); rotate_left; (have hds : ds = [.int K, .int T, .int M, .e (.sl xe), .e (.sl ye), .int L, .int R] := hds); subst hds; cbv) | ((with_reducible refine callK_eq hA hP ?_ ?_ ?_ (Wks.refl _) (fun _ _ => h322)); exact rfl; exact rfl; cbv) | ((with_reducible refine callK_eq hA hP ?_ ?_ ?_ (Wks.refl _) (fun _ _ => h251)); exact rfl; exact rfl; cbv) | ((with_reducible refine callK_eq hA hP ?_ ?_ ?_ (Wks.refl _) (fun _ _ => h252)); exact rfl; exact rfl; cbv) | ((with_reducible refine callK_eq hA hP ?_ ?_ ?_ (Wks.refl _) (fun _ _ => h253)); exact rfl; exact rfl; cbv) | ((with_reducible refine callK_eq hA hP ?_ ?_ ?_ (Wks.refl _) (fun _ _ => ihL)); exact rfl; exact rfl; cbv) | ((with_reducible refine callK_eq hA hP ?_ ?_ ?_ (Wks.refl _) (fun _ _ => h323)); exact rfl; exact rfl; cbv) | ((with_reducible refine hA.invk hm3 hd3 ?_); cbv) | ((with_reducible show A.call _ _ _ _ _ fn3 _ _ _); refine callK_eq hA hP hfr3 rfl ?_ (Wks.refl _) (fun _ _ => hp3); cbv) | ((with_reducible refine hA.fin_pl _ _ _ ?_); cbv) | ((with_reducible refine hA.off _ _ _ _ fun b hb => ?_); cbv) | ((with_reducible refine hA.plus _ _ _ fun b hb => ?_); cbv) | ((with_reducible refine hA.st _ _ _ _ _ ⟨?_, fun ds hds => ?_⟩); rotate_left; cbv) | ((with_reducible refine hA.sapp _ _ _ ⟨?_, fun sl hsl => ?_⟩); rotate_left; cbv) | ((with_reducible refine hA.gb0 true _ ?_); cbv) | ((with_reducible refine hA.gb0 false _ ?_); cbv) | ((with_reducible refine hA.gb _ _ fun vb hvb => ?_); cbv) | (simp only [hA.natLit, hA.natOf, hA.natCast]; cbv)
              all_goals try simp only [hA.add, hA.sub, hA.mul, hA.neg, hA.div, hA.mod, hA.mn, hA.mx, hA.eq, hA.lt, hA.le, hA.nat, hA.R, hA.lep, hA.ltp, hA.seq, inR, n_cast, Int.ofNat_eq_natCast, Option.getD_some, Option.getD_none] at *
              all_goals first | omega | rfl | trivial | (rw [hr2]; done) | (simp; done) | exact gg1 _ | exact gg2 _ | exact gg3 _ | (trace_state; fail)
        · simp only [if_true] at hres
          obtain ⟨⟨fn1, d1, hd1, hfr1, hm1, hp1⟩⟩ := a3
          have hm1 : MRow P T1 "loop.example/s0035/impl.width" fn1 := hP ▸ hm1
          have hw1 : 0 ≤ w1 ∧ w1 + env ≤ 200 := by rw [← a2]; exact hs1.2
          obtain ⟨e2, he2⟩ : ∃ z, z = if bD = true then env + w1 else env := ⟨_, rfl⟩
          have he2' : 0 ≤ e2 ∧ e2 ≤ 200 := by rw [he2]; split <;> omega
          rw [← he2] at hres
          have ihR := ihR e2 rfl he2'.1 he2'.2
          have hsR := hsR e2
          obtain ⟨gr, hgr⟩ : ∃ g, g = gR e2 := ⟨_, rfl⟩
          rw [← hgr] at hres ihR hsR
          clear hgr
          have hv2 : bD = true → A.add env w1 = e2 := fun h => by rw [hA.add, he2, if_pos h]
          cases gr with
          | none =>
            have ihR : Plain Try.prog 147 [.agg [.e (.sl x), .e (.sl xt), .e (.sl xst)], .int R, .int e2] (.e (.v .nilIface)) := ihR
            have hr2 : res = .v .nilIface := hres
            clear hres hsL hsR h323
            cases bD
            · have he3 : e2 = env := by rw [he2]; simp
              rw [he3] at ihR
              clear he2 hv2 he2'
              cbv
              repeat' first | with_reducible rfl | with_reducible refine And.intro ?_ ?_ | ((with_reducible intro hcc); first | (cases hcc; done) | skip) | ((with_reducible show goC _ _ _ _ _ _ _ _); cbv) | ((with_reducible show goOps _ _ _ _ _); cbv) | ((with_reducible show goD _ _ _ _ _ _); cbv) | ((with_reducible show okWr _ _ = _); rfl) | ((with_reducible refine hA.row x i _ ⟨hi, fun row hrow => ?_⟩); rw [q1] at hrow; subst hrow; cbv) | ((with_reducible refine hA.st [_, _, _, _, _, _, _] _ _ _ _ ⟨?_, fun ds hds => ?_⟩); rotate_left; (have hds : ds = [.int K, .int T, .int M, .e (.sl xe), .e (.sl ye), .int L, .int R] := hds); subst hds; cbv) | ((with_reducible refine callK_eq hA hP ?_ ?_ ?_ (Wks.refl _) (fun _ _ => h322)); exact rfl; exact rfl; cbv) | ((with_reducible refine callK_eq hA hP ?_ ?_ ?_ (Wks.refl _) (fun _ _ => h251)); exact rfl; exact rfl; cbv) | ((with_reducible refine callK_eq hA hP ?_ ?_ ?_ (Wks.refl _) (fun _ _ => h252)); exact rfl; exact rfl; cbv) | ((with_reducible refine callK_eq hA hP ?_ ?_ ?_ (Wks.refl _) (fun _ _ => h253)); exact rfl; exact rfl; cbv) | ((with_reducible refine callK_eq hA hP ?_ ?_ ?_ (Wks.refl _) (fun _ _ => ihL)); exact rfl; exact rfl; cbv) | ((with_reducible refine callK_eq hA hP ?_ ?_ ?_ (Wks.refl _) (fun _ _ => ihR)); exact rfl; exact rfl; cbv) | ((with_reducible refine hA.fin_pl _ _ _ ?_); cbv) | ((with_reducible refine hA.off _ _ _ _ fun b hb => ?_); cbv) | ((with_reducible refine hA.plus _ _ _ fun b hb => ?_); cbv) | ((with_reducible refine hA.st _ _ _ _ _ ⟨?_, fun ds hds => ?_⟩); rotate_left; cbv) | ((with_reducible refine hA.sapp _ _ _ ⟨?_, fun sl hsl => ?_⟩); rotate_left; cbv) | ((with_reducible refine hA.gb0 true _ ?_); cbv) | ((with_reducible refine hA.gb0 false _ ?_); cbv) | ((with_reducible refine hA.gb _ _ fun vb hvb => ?_); cbv) | (simp only [hA.natLit, hA.natOf, hA.natCast]; cbv)
              all_goals try simp only [hA.add, hA.sub, hA.mul, hA.neg, hA.div, hA.mod, hA.mn, hA.mx, hA.eq, hA.lt, hA.le, hA.nat, hA.R, hA.lep, hA.ltp, hA.seq, inR, n_cast, Int.ofNat_eq_natCast, Option.getD_some, Option.getD_none] at *
              all_goals first | omega | rfl | trivial | (rw [hr2]; done) | (simp; done) | exact gg1 _ | exact gg2 _ | exact gg3 _ | (trace_state; fail)
            · have hv2 := hv2 rfl
              clear he2
              cbv
              repeat' first | with_reducible rfl | (simp only [hv2]; cbv) | with_reducible refine And.intro ?_ ?_ | ((with_reducible intro hcc); first | (cases hcc; done) | skip) | ((with_reducible show goC _ _ _ _ _ _ _ _); cbv) | ((with_reducible show goOps _ _ _ _ _); cbv) | ((with_reducible show goD _ _ _ _ _ _); cbv) | ((with_reducible show okWr _ _ = _); rfl) | ((with_reducible refine hA.row x i _ ⟨hi, fun row hrow => ?_⟩); rw [q1] at hrow; subst hrow; cbv) | ((with_reducible refine hA.st [_, _, _, _, _, _, _] _ _ _ _ ⟨?_, fun ds hds => ?_⟩); rotate_left; (have hds : ds = [.int K, .int T, .int M, .e (.sl xe), .e (.sl ye), .int L, .int R] := hds); subst hds; cbv) | ((with_reducible refine callK_eq hA hP ?_ ?_ ?_ (Wks.refl _) (fun _ _ => h322)); exact rfl; exact rfl; cbv) | ((with_reducible refine callK_eq hA hP ?_ ?_ ?_ (Wks.refl _) (fun _ _ => h251)); exact rfl; exact rfl; cbv) | ((with_reducible refine callK_eq hA hP ?_ ?_ ?_ (Wks.refl _) (fun _ _ => h252)); exact rfl; exact rfl; cbv) | ((with_reducible refine callK_eq hA hP ?_ ?_ ?_ (Wks.refl _) (fun _ _ => h253)); exact rfl; exact rfl; cbv) | ((with_reducible refine callK_eq hA hP ?_ ?_ ?_ (Wks.refl _) (fun _ _ => ihL)); exact rfl; exact rfl; cbv) | ((with_reducible refine callK_eq hA hP ?_ ?_ ?_ (Wks.refl _) (fun _ _ => ihR)); exact rfl; exact rfl; cbv) | ((with_reducible refine hA.invk hm1 hd1 ?_); cbv) | ((with_reducible show A.call _ _ _ _ _ fn1 _ _ _); refine callK_eq hA hP hfr1 rfl ?_ (Wks.refl _) (fun _ _ => hp1); cbv) | ((with_reducible refine hA.fin_pl _ _ _ ?_); cbv) | ((with_reducible refine hA.off _ _ _ _ fun b hb => ?_); cbv) | ((with_reducible refine hA.plus _ _ _ fun b hb => ?_); cbv) | ((with_reducible refine hA.st _ _ _ _ _ ⟨?_, fun ds hds => ?_⟩); rotate_left; cbv) | ((with_reducible refine hA.sapp _ _ _ ⟨?_, fun sl hsl => ?_⟩); rotate_left; cbv) | ((with_reducible refine hA.gb0 true _ ?_); cbv) | ((with_reducible refine hA.gb0 false _ ?_); cbv) | ((with_reducible refine hA.gb _ _ fun vb hvb => ?_); cbv) | (simp only [hA.natLit, hA.natOf, hA.natCast]; cbv)
              all_goals try simp only [hA.add, hA.sub, hA.mul, hA.neg, hA.div, hA.mod, hA.mn, hA.mx, hA.eq, hA.lt, hA.le, hA.nat, hA.R, hA.lep, hA.ltp, hA.seq, inR, n_cast, Int.ofNat_eq_natCast, Option.getD_some, Option.getD_none] at *
              all_goals first | omega | rfl | trivial | (rw [hr2]; done) | (simp; done) | exact gg1 _ | exact gg2 _ | exact gg3 _ | (trace_state; fail)
          | some r =>
            have hs2 := hsR r he2'.1 rfl
            obtain ⟨T2, c2, w2, a4, a5, a6⟩ := wid_of hs2.1 (by omega)
            have ihR : Plain Try.prog 147 [.agg [.e (.sl x), .e (.sl xt), .e (.sl xst)], .int R, .int e2] (.e (.ia T2 c2)) := by rw [← a4]; exact ihR
            simp only at hres
            cases bD
            · have he3 : e2 = env := by rw [he2]; simp
              rw [he3] at ihR
              clear he2 hv2
              have h323 := h323 (l) (r) (.ia T1 c1) (.ia T2 c2) (fun _ => ⟨a1.symm, hs1.1, by omega⟩) (fun _ => ⟨a4.symm, hs2.1, by omega⟩)
              cases ho : ndO ⟨K, T, M, Ex, Exs, L, R⟩ ts env (l) (r) with
              | none =>
                rw [ho] at h323 hres
                have h323 : Plain Try.prog 189 [.agg [.e (.sl x), .e (.sl xt), .e (.sl xst)], .agg [.int K, .int T, .int M, .e (.sl xe), .e (.sl ye), .int L, .int R], .int env, .e (.ia T1 c1), .e (.ia T2 c2)] (.e (.v .nilIface)) := h323
                have hr2 : res = .v .nilIface := hres
                clear hres hsL hsR ho
                cbv
                repeat' first | with_reducible rfl | with_reducible refine And.intro ?_ ?_ | ((with_reducible intro hcc); first | (cases hcc; done) | skip) | ((with_reducible show goC _ _ _ _ _ _ _ _); cbv) | ((with_reducible show goOps _ _ _ _ _); cbv) | ((with_reducible show goD _ _ _ _ _ _); cbv) | ((with_reducible show okWr _ _ = _); rfl) | ((with_reducible refine hA.row x i _ ⟨hi, fun row hrow => ?_⟩); rw [q1] at hrow; subst hrow; cbv) | ((with_reducible refine hA.st [_, _, _, _, _, _, _] _ _ _ _ ⟨?_, fun ds hds => ?_⟩); rotate_left; (have hds : ds = [.int K, .int T, .int M, .e (.sl xe), .e (.sl ye), .int L, .int R] := hds); subst hds; cbv) | ((with_reducible refine callK_eq hA hP ?_ ?_ ?_ (Wks.refl _) (fun _ _ => h322)); exact rfl; exact rfl; cbv) | ((with_reducible refine callK_eq hA hP ?_ ?_ ?_ (Wks.refl _) (fun _ _ => h251)); exact rfl; exact rfl; cbv) | ((with_reducible refine callK_eq hA hP ?_ ?_ ?_ (Wks.refl _) (fun _ _ => h252)); exact rfl; exact rfl; cbv) | ((with_reducible refine callK_eq hA hP ?_ ?_ ?_ (Wks.refl _) (fun _ _ => h253)); exact rfl; exact rfl; cbv) | ((with_reducible refine callK_eq hA hP ?_ ?_ ?_ (Wks.refl _) (fun _ _ => ihL)); exact rfl; exact rfl; cbv) | ((with_reducible refine callK_eq hA hP ?_ ?_ ?_ (Wks.refl _) (fun _ _ => ihR)); exact rfl; exact rfl; cbv) | ((with_reducible refine callK_eq hA hP ?_ ?_ ?_ (Wks.refl _) (fun _ _ => h323)); exact rfl; exact rfl; cbv) | ((with_reducible refine hA.anyd _ (.int 0) ?_); cbv) | ((with_reducible show A.call _ _ _ _ false _ _ _ _); refine callK_no hA (.int 0) ?_; cbv) | ((with_reducible refine hA.fin_pl _ _ _ ?_); cbv) | ((with_reducible refine hA.off _ _ _ _ fun b hb => ?_); cbv) | ((with_reducible refine hA.plus _ _ _ fun b hb => ?_); cbv) | ((with_reducible refine hA.st _ _ _ _ _ ⟨?_, fun ds hds => ?_⟩); rotate_left; cbv) | ((with_reducible refine hA.sapp _ _ _ ⟨?_, fun sl hsl => ?_⟩); rotate_left; cbv) | ((with_reducible refine hA.gb0 true _ ?_); cbv) | ((with_reducible refine hA.gb0 false _ ?_); cbv) | ((with_reducible refine hA.gb _ _ fun vb hvb => ?_); cbv) | (simp only [hA.natLit, hA.natOf, hA.natCast]; cbv)
                all_goals try simp only [hA.add, hA.sub, hA.mul, hA.neg, hA.div, hA.mod, hA.mn, hA.mx, hA.eq, hA.lt, hA.le, hA.nat, hA.R, hA.lep, hA.ltp, hA.seq, inR, n_cast, Int.ofNat_eq_natCast, Option.getD_some, Option.getD_none] at *
                all_goals first | omega | rfl | trivial | (rw [hr2]; done) | (simp; done) | exact gg1 _ | exact gg2 _ | exact gg3 _ | (trace_state; fail)
              | some o =>
                rw [ho] at h323 hres
                have hos := nd_sm ho ⟨hs1.1, by omega⟩ ⟨hs2.1, by omega⟩ z2 hct
                obtain ⟨T3, c3, w3, b1, b2, b3⟩ := wid_of hos.1 hos.2
                simp only [b2] at hres
                have h323 : Plain Try.prog 189 [.agg [.e (.sl x), .e (.sl xt), .e (.sl xst)], .agg [.int K, .int T, .int M, .e (.sl xe), .e (.sl ye), .int L, .int R], .int env, .e (.ia T1 c1), .e (.ia T2 c2)] (.e (.ia T3 c3)) := by rw [← b1]; exact h323
                obtain ⟨⟨fn3, d3, hd3, hfr3, hm3, hp3⟩⟩ := b3
                have hm3 : MRow P T3 "loop.example/s0035/impl.width" fn3 := hP ▸ hm3
                have hw3 : 0 ≤ w3 ∧ w3 ≤ 1048576 := by rw [← b2]; exact hos.2
                obtain ⟨ew, hew⟩ : ∃ z, z = A.add w3 env := ⟨_, rfl⟩
                have hew2 : ew = w3 + env := by rw [hew, hA.add]
                rw [← hew2] at hres
                by_cases h200 : 200 < ew
                · have vw : A.lt 200 ew = true := by rw [hA.lt]; exact decide_eq_true h200
                  have hr2 : res = .v .nilIface := by rw [hres, if_pos h200]; rfl
                  clear hres hsL hsR ho
                  cbv
                  repeat' first | with_reducible rfl | (simp only [vw]; cbv) | (simp only [← hew]; cbv) | with_reducible refine And.intro ?_ ?_ | ((with_reducible intro hcc); first | (cases hcc; done) | skip) | ((with_reducible show goC _ _ _ _ _ _ _ _); cbv) | ((with_reducible show goOps _ _ _ _ _); cbv) | ((with_reducible show goD _ _ _ _ _ _); cbv) | ((with_reducible show okWr _ _ = _); rfl) | ((with_reducible refine hA.row x i _ ⟨hi, fun row hrow => ?_⟩); rw [q1] at hrow; subst hrow; cbv) | ((with_reducible refine hA.st [_, _, _, _, _, _, _] _ _ _ _ ⟨?_, fun ds hds => ?_⟩); rotate_left; (have hds : ds = [.int K, .int T, .int M, .e (.sl xe), .e (.sl ye), .int L, .int R] := hds); subst hds; cbv) | ((with_reducible refine callK_eq hA hP ?_ ?_ ?_ (Wks.refl _) (fun _ _ => h322)); exact rfl; exact rfl; cbv) | ((with_reducible refine callK_eq hA hP ?_ ?_ ?_ (Wks.refl _) (fun _ _ => h251)); exact rfl; exact rfl; cbv) | ((with_reducible refine callK_eq hA hP ?_ ?_ ?_ (Wks.refl _) (fun _ _ => h252)); exact rfl; exact rfl; cbv) | ((with_reducible refine callK_eq hA hP ?_ ?_ ?_ (Wks.refl _) (fun _ _ => h253)); exact rfl; exact rfl; cbv) | ((with_reducible refine callK_eq hA hP ?_ ?_ ?_ (Wks.refl _) (fun _ _ => ihL)); exact rfl; exact rfl; cbv) | ((with_reducible refine callK_eq hA hP ?_ ?_ ?_ (Wks.refl _) (fun _ _ => ihR)); exact rfl; exact rfl; cbv) | ((with_reducible refine callK_eq hA hP ?_ ?_ ?_ (Wks.refl _) (fun _ _ => h323)); exact rfl; exact rfl; cbv) | ((with_reducible refine hA.invk hm3 hd3 ?_); cbv) | ((with_reducible show A.call _ _ _ _ _ fn3 _ _ _); refine callK_eq hA hP hfr3 rfl ?_ (Wks.refl _) (fun _ _ => hp3); cbv) | ((with_reducible refine hA.fin_pl _ _ _ ?_); cbv) | ((with_reducible refine hA.off _ _ _ _ fun b hb => ?_); cbv) | ((with_reducible refine hA.plus _ _ _ fun b hb => ?_); cbv) | ((with_reducible refine hA.st _ _ _ _ _ ⟨?_, fun ds hds => ?_⟩); rotate_left; cbv) | ((with_reducible refine hA.sapp _ _ _ ⟨?_, fun sl hsl => ?_⟩); rotate_left; cbv) | ((with_reducible refine hA.gb0 true _ ?_); cbv) | ((with_reducible refine hA.gb0 false _ ?_); cbv) | ((with_reducible refine hA.gb _ _ fun vb hvb => ?_); cbv) | (simp only [hA.natLit, hA.natOf, hA.natCast]; cbv)
                  all_goals try simp only [hA.add, hA.sub, hA.mul, hA.neg, hA.div, hA.mod, hA.mn, hA.mx, hA.eq, hA.lt, hA.le, hA.nat, hA.R, hA.lep, hA.ltp, hA.seq, inR, n_cast, Int.ofNat_eq_natCast, Option.getD_some, Option.getD_none] at *
                  all_goals first | omega | rfl | trivial | (rw [hr2]; done) | (simp; done) | exact gg1 _ | exact gg2 _ | exact gg3 _ | (trace_state; fail)
                · have vw : A.lt 200 ew = false := by rw [hA.lt]; exact decide_eq_false h200
                  have hr2 : res = .ia T3 c3 := by rw [hres, if_neg h200, optE, b1]
                  clear hres hsL hsR ho
                  cbv
                  repeat' first | with_reducible rfl | (simp only [vw]; cbv) | (simp only [← hew]; cbv) | with_reducible refine And.intro ?_ ?_ | ((with_reducible intro hcc); first | (cases hcc; done) | skip) | ((with_reducible show goC _ _ _ _ _ _ _ _); cbv) | ((with_reducible show goOps _ _ _ _ _); cbv) | ((with_reducible show goD _ _ _ _ _ _); cbv) | ((with_reducible show okWr _ _ = _); rfl) | ((with_reducible refine hA.row x i _ ⟨hi, fun row hrow => ?_⟩); rw [q1] at hrow; subst hrow; cbv) | ((with_reducible refine hA.st [_, _, _, _, _, _, _] _ _ _ _ ⟨?_, fun ds hds => ?_⟩); rotate_left; (have hds : ds = [.int K, .int T, .int M, .e (.sl xe), .e (.sl ye), .int L, .int R] := hds); subst hds; cbv) | ((with_reducible refine callK_eq hA hP ?_ ?_ ?_ (Wks.refl _) (fun _ _ => h322)); exact rfl; exact rfl; cbv) | ((with_reducible refine callK_eq hA hP ?_ ?_ ?_ (Wks.refl _) (fun _ _ => h251)); exact rfl; exact rfl; cbv) | ((with_reducible refine callK_eq hA hP ?_ ?_ ?_ (Wks.refl _) (fun _ _ => h252)); exact rfl; exact rfl; cbv) | ((with_reducible refine callK_eq hA hP ?_ ?_ ?_ (Wks.refl _) (fun _ _ => h253)); exact rfl; exact rfl; cbv) | ((with_reducible refine callK_eq hA hP ?_ ?_ ?_ (Wks.refl _) (fun _ _ => ihL)); exact rfl; exact rfl; cbv) | ((with_reducible refine callK_eq hA hP ?_ ?_ ?_ (Wks.refl _) (fun _ _ => ihR)); exact rfl; exact rfl; cbv) | ((with_reducible refine callK_eq hA hP ?_ ?_ ?_ (Wks.refl _) (fun _ _ => h323)); exact rfl; exact rfl; cbv) | ((with_reducible refine hA.invk hm3 hd3 ?_); cbv) | ((with_reducible show A.call _ _ _ _ _ fn3 _ _ _); refine callK_eq hA hP hfr3 rfl ?_ (Wks.refl _) (fun _ _ => hp3); cbv) | ((with_reducible refine hA.fin_pl _ _ _ ?_); cbv) | ((with_reducible refine hA.off _ _ _ _ fun b hb => ?_); cbv) | ((with_reducible refine hA.plus _ _ _ fun b hb => ?_); cbv) | ((with_reducible refine hA.st _ _ _ _ _ ⟨?_, fun ds hds => ?_⟩); rotate_left; cbv) | ((with_reducible refine hA.sapp _ _ _ ⟨?_, fun sl hsl => ?_⟩); rotate_left; cbv) | ((with_reducible refine hA.gb0 true _ ?_); cbv) | ((with_reducible refine hA.gb0 false _ ?_); cbv) | ((with_reducible refine hA.gb _ _ fun vb hvb => ?_); cbv) | (simp only [hA.natLit, hA.natOf, hA.natCast]; cbv)
                  all_goals try simp only [hA.add, hA.sub, hA.mul, hA.neg, hA.div, hA.mod, hA.mn, hA.mx, hA.eq, hA.lt, hA.le, hA.nat, hA.R, hA.lep, hA.ltp, hA.seq, inR, n_cast, Int.ofNat_eq_natCast, Option.getD_some, Option.getD_none] at *
                  all_goals first | omega | rfl | trivial | (rw [hr2]; done) | (simp; done) | exact gg1 _ | exact gg2 _ | exact gg3 _ | (trace_state; fail)
            · have hv2 := hv2 rfl
              clear he2
              have h323 := h323 (l) (r) (.ia T1 c1) (.ia T2 c2) (fun _ => ⟨a1.symm, hs1.1, by omega⟩) (fun _ => ⟨a4.symm, hs2.1, by omega⟩)
              cases ho : ndO ⟨K, T, M, Ex, Exs, L, R⟩ ts env (l) (r) with
              | none =>
                rw [ho] at h323 hres
                have h323 : Plain Try.prog 189 [.agg [.e (.sl x), .e (.sl xt), .e (.sl xst)], .agg [.int K, .int T, .int M, .e (.sl xe), .e (.sl ye), .int L, .int R], .int env, .e (.ia T1 c1), .e (.ia T2 c2)] (.e (.v .nilIface)) := h323
                have hr2 : res = .v .nilIface := hres
                clear hres hsL hsR ho
                cbv
                repeat' first | with_reducible rfl | (simp only [hv2]; cbv) | with_reducible refine And.intro ?_ ?_ | ((with_reducible intro hcc); first | (cases hcc; done) | skip) | ((with_reducible show goC _ _ _ _ _ _ _ _); cbv) | ((with_reducible show goOps _ _ _ _ _); cbv) | ((with_reducible show goD _ _ _ _ _ _); cbv) | ((with_reducible show okWr _ _ = _); rfl) | ((with_reducible refine hA.row x i _ ⟨hi, fun row hrow => ?_⟩); rw [q1] at hrow; subst hrow; cbv) | ((with_reducible refine hA.st [_, _, _, _, _, _, _] _ _ _ _ ⟨?_, fun ds hds => ?_⟩); rotate_left; (have hds : ds = [.int K, .int T, .int M, .e (.sl xe), .e (.sl ye), .int L, .int R] := hds); subst hds; cbv) | ((with_reducible refine callK_eq hA hP ?_ ?_ ?_ (Wks.refl _) (fun _ _ => h322)); exact rfl; exact rfl; cbv) | ((with_reducible refine callK_eq hA hP ?_ ?_ ?_ (Wks.refl _) (fun _ _ => h251)); exact rfl; exact rfl; cbv) | ((with_reducible refine callK_eq hA hP ?_ ?_ ?_ (Wks.refl _) (fun _ _ => h252)); exact rfl; exact rfl; cbv) | ((with_reducible refine callK_eq hA hP ?_ ?_ ?_ (Wks.refl _) (fun _ _ => h253)); exact rfl; exact rfl; cbv) | ((with_reducible refine callK_eq hA hP ?_ ?_ ?_ (Wks.refl _) (fun _ _ => ihL)); exact rfl; exact rfl; cbv) | ((with_reducible refine callK_eq hA hP ?_ ?_ ?_ (Wks.refl _) (fun _ _ => ihR)); exact rfl; exact rfl; cbv) | ((with_reducible refine hA.invk hm1 hd1 ?_); cbv) | ((with_reducible show A.call _ _ _ _ _ fn1 _ _ _); refine callK_eq hA hP hfr1 rfl ?_ (Wks.refl _) (fun _ _ => hp1); cbv) | ((with_reducible refine callK_eq hA hP ?_ ?_ ?_ (Wks.refl _) (fun _ _ => h323)); exact rfl; exact rfl; cbv) | ((with_reducible refine hA.anyd _ (.int 0) ?_); cbv) | ((with_reducible show A.call _ _ _ _ false _ _ _ _); refine callK_no hA (.int 0) ?_; cbv) | ((with_reducible refine hA.fin_pl _ _ _ ?_); cbv) | ((with_reducible refine hA.off _ _ _ _ fun b hb => ?_); cbv) | ((with_reducible refine hA.plus _ _ _ fun b hb => ?_); cbv) | ((with_reducible refine hA.st _ _ _ _ _ ⟨?_, fun ds hds => ?_⟩); rotate_left; cbv) | ((with_reducible refine hA.sapp _ _ _ ⟨?_, fun sl hsl => ?_⟩); rotate_left; cbv) | ((with_reducible refine hA.gb0 true _ ?_); cbv) | ((with_reducible refine hA.gb0 false _ ?_); cbv) | ((with_reducible refine hA.gb _ _ fun vb hvb => ?_); cbv) | (simp only [hA.natLit, hA.natOf, hA.natCast]; cbv)
                all_goals try simp only [hA.add, hA.sub, hA.mul, hA.neg, hA.div, hA.mod, hA.mn, hA.mx, hA.eq, hA.lt, hA.le, hA.nat, hA.R, hA.lep, hA.ltp, hA.seq, inR, n_cast, Int.ofNat_eq_natCast, Option.getD_some, Option.getD_none] at *
                all_goals first | omega | rfl | trivial | (rw [hr2]; done) | (simp; done) | exact gg1 _ | exact gg2 _ | exact gg3 _ | (trace_state; fail)
              | some o =>
                rw [ho] at h323 hres
                have hos := nd_sm ho ⟨hs1.1, by omega⟩ ⟨hs2.1, by omega⟩ z2 hct
                obtain ⟨T3, c3, w3, b1, b2, b3⟩ := wid_of hos.1 hos.2
                simp only [b2] at hres
                have h323 : Plain Try.prog 189 [.agg [.e (.sl x), .e (.sl xt), .e (.sl xst)], .agg [.int K, .int T, .int M, .e (.sl xe), .e (.sl ye), .int L, .int R], .int env, .e (.ia T1 c1), .e (.ia T2 c2)] (.e (.ia T3 c3)) := by rw [← b1]; exact h323
                obtain ⟨⟨fn3, d3, hd3, hfr3, hm3, hp3⟩⟩ := b3
                have hm3 : MRow P T3 "loop.example/s0035/impl.width" fn3 := hP ▸ hm3
                have hw3 : 0 ≤ w3 ∧ w3 ≤ 1048576 := by rw [← b2]; exact hos.2
                obtain ⟨ew, hew⟩ : ∃ z, z = A.add w3 env := ⟨_, rfl⟩
                have hew2 : ew = w3 + env := by rw [hew, hA.add]
                rw [← hew2] at hres
                by_cases h200 : 200 < ew
                · have vw : A.lt 200 ew = true := by rw [hA.lt]; exact decide_eq_true h200
                  have hr2 : res = .v .nilIface := by rw [hres, if_pos h200]; rfl
                  clear hres hsL hsR ho
                  cbv
                  repeat' first | with_reducible rfl | (simp only [vw]; cbv) | (simp only [← hew]; cbv) | (simp only [hv2]; cbv) | with_reducible refine And.intro ?_ ?_ | ((with_reducible intro hcc); first | (cases hcc; done) | skip) | ((with_reducible show goC _ _ _ _ _ _ _ _); cbv) | ((with_reducible show goOps _ _ _ _ _); cbv) | ((with_reducible show goD _ _ _ _ _ _); cbv) | ((with_reducible show okWr _ _ = _); rfl) | ((with_reducible refine hA.row x i _ ⟨hi, fun row hrow => ?_⟩); rw [q1] at hrow; subst hrow; cbv) | ((with_reducible refine hA.st [_, _, _, _, _, _, _] _ _ _ _ ⟨?_, fun ds hds => ?_⟩); rotate_left; (have hds : ds = [.int K, .int T, .int M, .e (.sl xe), .e (.sl ye), .int L, .int R] := hds); subst hds; cbv) | ((with_reducible refine callK_eq hA hP ?_ ?_ ?_ (Wks.refl _) (fun _ _ => h322)); exact rfl; exact rfl; cbv) | ((with_reducible refine callK_eq hA hP ?_ ?_ ?_ (Wks.refl _) (fun _ _ => h251)); exact rfl; exact rfl; cbv) | ((with_reducible refine callK_eq hA hP ?_ ?_ ?_ (Wks.refl _) (fun _ _ => h252)); exact rfl; exact rfl; cbv) | ((with_reducible refine callK_eq hA hP ?_ ?_ ?_ (Wks.refl _) (fun _ _ => h253)); exact rfl; exact rfl; cbv) | ((with_reducible refine callK_eq hA hP ?_ ?_ ?_ (Wks.refl _) (fun _ _ => ihL)); exact rfl; exact rfl; cbv) | ((with_reducible refine callK_eq hA hP ?_ ?_ ?_ (Wks.refl _) (fun _ _ => ihR)); exact rfl; exact rfl; cbv) | ((with_reducible refine hA.invk hm1 hd1 ?_); cbv) | ((with_reducible show A.call _ _ _ _ _ fn1 _ _ _); refine callK_eq hA hP hfr1 rfl ?_ (Wks.refl _) (fun _ _ => hp1); cbv) | ((with_reducible refine callK_eq hA hP ?_ ?_ ?_ (Wks.refl _) (fun _ _ => h323)); exact rfl; exact rfl; cbv) | ((with_reducible refine hA.invk hm3 hd3 ?_); cbv) | ((with_reducible show A.call _ _ _ _ _ fn3 _ _ _); refine callK_eq hA hP hfr3 rfl ?_ (Wks.refl _) (fun _ _ => hp3); cbv) | ((with_reducible refine hA.fin_pl _ _ _ ?_); cbv) | ((with_reducible refine hA.off _ _ _ _ fun b hb => ?_); cbv) | ((with_reducible refine hA.plus _ _ _ fun b hb => ?_); cbv) | ((with_reducible refine hA.st _ _ _ _ _ ⟨?_, fun ds hds => ?_⟩); rotate_left; cbv) | ((with_reducible refine hA.sapp _ _ _ ⟨?_, fun sl hsl => ?_⟩); rotate_left; cbv) | ((with_reducible refine hA.gb0 true _ ?_); cbv) | ((with_reducible refine hA.gb0 false _ ?_); cbv) | ((with_reducible refine hA.gb _ _ fun vb hvb => ?_); cbv) | (simp only [hA.natLit, hA.natOf, hA.natCast]; cbv)
                  all_goals try simp only [hA.add, hA.sub, hA.mul, hA.neg, hA.div, hA.mod, hA.mn, hA.mx, hA.eq, hA.lt, hA.le, hA.nat, hA.R, hA.lep, hA.ltp, hA.seq, inR, n_cast, Int.ofNat_eq_natCast, Option.getD_some, Option.getD_none] at *
                  all_goals first | omega | rfl | trivial | (rw [hr2]; done) | (simp; done) | exact gg1 _ | exact gg2 _ | exact gg3 _ | (trace_state; fail)
                · have vw : A.lt 200 ew = false := by rw [hA.lt]; exact decide_eq_false h200
                  have hr2 : res = .ia T3 c3 := by rw [hres, if_neg h200, optE, b1]
                  clear hres hsL hsR ho
                  cbv
                  repeat' first | with_reducible rfl | (simp only [vw]; cbv) | (simp only [← hew]; cbv) | (simp only [hv2]; cbv) | with_reducible refine And.intro ?_ ?_ | ((with_reducible intro hcc); first | (cases hcc; done) | skip) | ((with_reducible show goC _ _ _ _ _ _ _ _); cbv) | ((with_reducible show goOps _ _ _ _ _); cbv) | ((with_reducible show goD _ _ _ _ _ _); cbv) | ((with_reducible show okWr _ _ = _); rfl) | ((with_reducible refine hA.row x i _ ⟨hi, fun row hrow => ?_⟩); rw [q1] at hrow; subst hrow; cbv) | ((with_reducible refine hA.st [_, _, _, _, _, _, _] _ _ _ _ ⟨?_, fun ds hds => ?_⟩); rotate_left; (have hds : ds = [.int K, .int T, .int M, .e (.sl xe), .e (.sl ye), .int L, .int R] := hds); subst hds; cbv) | ((with_reducible refine callK_eq hA hP ?_ ?_ ?_ (Wks.refl _) (fun _ _ => h322)); exact rfl; exact rfl; cbv) | ((with_reducible refine callK_eq hA hP ?_ ?_ ?_ (Wks.refl _) (fun _ _ => h251)); exact rfl; exact rfl; cbv) | ((with_reducible refine callK_eq hA hP ?_ ?_ ?_ (Wks.refl _) (fun _ _ => h252)); exact rfl; exact rfl; cbv) | ((with_reducible refine callK_eq hA hP ?_ ?_ ?_ (Wks.refl _) (fun _ _ => h253)); exact rfl; exact rfl; cbv) | ((with_reducible refine callK_eq hA hP ?_ ?_ ?_ (Wks.refl _) (fun _ _ => ihL)); exact rfl; exact rfl; cbv) | ((with_reducible refine callK_eq hA hP ?_ ?_ ?_ (Wks.refl _) (fun _ _ => ihR)); exact rfl; exact rfl; cbv) | ((with_reducible refine hA.invk hm1 hd1 ?_); cbv) | ((with_reducible show A.call _ _ _ _ _ fn1 _ _ _); refine callK_eq hA hP hfr1 rfl ?_ (Wks.refl _) (fun _ _ => hp1); cbv) | ((with_reducible refine callK_eq hA hP ?_ ?_ ?_ (Wks.refl _) (fun _ _ => h323)); exact rfl; exact rfl; cbv) | ((with_reducible refine hA.invk hm3 hd3 ?_); cbv) | ((with_reducible show A.call _ _ _ _ _ fn3 _ _ _); refine callK_eq hA hP hfr3 rfl ?_ (Wks.refl _) (fun _ _ => hp3); cbv) | ((with_reducible refine hA.fin_pl _ _ _ ?_); cbv) | ((with_reducible refine hA.off _ _ _ _ fun b hb => ?_); cbv) | ((with_reducible refine hA.plus _ _ _ fun b hb => ?_); cbv) | ((with_reducible refine hA.st _ _ _ _ _ ⟨?_, fun ds hds => ?_⟩); rotate_left; cbv) | ((with_reducible refine hA.sapp _ _ _ ⟨?_, fun sl hsl => ?_⟩); rotate_left; cbv) | ((with_reducible refine hA.gb0 true _ ?_); cbv) | ((with_reducible refine hA.gb0 false _ ?_); cbv) | ((with_reducible refine hA.gb _ _ fun vb hvb => ?_); cbv) | (simp only [hA.natLit, hA.natOf, hA.natCast]; cbv)
                  all_goals try simp only [hA.add, hA.sub, hA.mul, hA.neg, hA.div, hA.mod, hA.mn, hA.mx, hA.eq, hA.lt, hA.le, hA.nat, hA.R, hA.lep, hA.ltp, hA.seq, inR, n_cast, Int.ofNat_eq_natCast, Option.getD_some, Option.getD_none] at *
                  all_goals first | omega | rfl | trivial | (rw [hr2]; done) | (simp; done) | exact gg1 _ | exact gg2 _ | exact gg3 _ | (trace_state; fail)
end Go.Proofs.Ytfplalbognalkaa.Ab
/- Buffers of numbers. -/
namespace Go.Proofs.Ytfplalbognalkaa.Ab
open Go
def dsI (c : List Int) : List D := c.map fun k => .int k
theorem dsI_len (c : List Int) : (dsI c).length = c.length := by simp [dsI]
theorem dsI_ren (t : RF) (c : List Int) : rens t (dsI c) = dsI c := by
  induction c with
  | nil => rfl
  | cons r c ih => show D.int r :: rens t (dsI c) = _; rw [ih]; rfl
theorem dsI_lt (m : Nat) (c : List Int) : lts m (dsI c) = true := by
  induction c with
  | nil => rfl
  | cons r c ih => show (true && lts m (dsI c)) = true; rw [ih]; rfl
theorem dsI_get {c : List Int} {ds : List D} {off : Nat} {d : D} {v : Int} (hd : ds = dsI c) (ho : c[off]? = some v) (h : d = ds.getD off default) : d = .int v := by
  subst hd
  rw [h]
  simp [dsI, List.getD, ho]
theorem dsI_set {c : List Int} {ds ds' : List D} {off : Nat} {r : Int} (hd : ds = dsI c) (ho : off < c.length) (h : ds' = ds.take off ++ [D.int r] ++ ds.drop (off + 1)) : ds' = dsI (c.set off r) := by
  subst hd
  rw [h, dsI, dsI, List.map_set, List.set_eq_take_append_cons_drop, if_pos (by simpa using ho)]
  simp
theorem dsI_flat (c : List Int) : dsI c = (c.map ir).flatten.map D.e := by
  induction c with
  | nil => rfl
  | cons a c ih => show D.int a :: dsI c = _; rw [ih]; rfl
theorem rep_dsI (n : Nat) : (List.replicate n [D.int 0]).flatten = dsI (List.replicate n 0) := by
  induction n with
  | zero => rfl
  | succ n ih => rw [List.replicate_succ, List.flatten_cons, ih]; rfl
end Go.Proofs.Ytfplalbognalkaa.Ab
/- Several results, each taken for less. -/
namespace Go.Proofs.Ytfplalbognalkaa.Ab
open Go
theorem fin_tup {l : List O} {ds' ds : List D} (h : ds'.map D.pl = ds) (hf : (D.tup ds).free = true) : FinW l (.tup ds') (.tup ds) := by
  intro w G v hi hr
  refine ⟨G, ?_, inv_nil hi, fun w0 G0 e => ?_⟩
  · have : Rv w G (hpF l) v (.tup ds) := by
      subst h
      cases hr with
      | tup hl hr =>
        refine .tup (by rw [List.length_map]; exact hl) fun j c d hc hd => ?_
        rw [List.getElem?_map] at hd
        cases hq : ds'[j]? with
        | none => rw [hq] at hd; simp at hd
        | some d0 =>
          rw [hq] at hd
          cases hd
          exact (hr j c d0 hc hq).pl
    exact this.free hf rfl
  · rw [hpF_nil] at e ⊢
    exact ⟨e.os, e.tape, e.output, e.size, e.pub, fun i ds h => by simp at h, fun i n k h => by simp at h, e.others, fun i h => by simp [O.has] at h, e.pubnew, fun i b k ds h => by simp at h, fun i h => by simp at h, fun i l h => by simp at h⟩
theorem Ar.Ok.fin_tup {A : Ar} (h : A.Ok) (l : List O) (ds' ds : List D) (e : ds'.map D.pl = ds) : A.fin l (.tup ds') (.tup ds) := h.fin _ _ _ fun hf => Ab.fin_tup e hf
end Go.Proofs.Ytfplalbognalkaa.Ab
/- Plans: where stretches begin, by the program. -/
namespace Go.Proofs.Ytfplalbognalkaa.Ab
open Go
theorem fin_tup2 {l : List O} {d' d : D} {x : Value} (h : FinW l d' d) : FinW l (.tup [d', .e (.v x)]) (.tup [d, .e (.v x)]) := by
  intro w G v hi hr
  cases hr with
  | tup hl hr =>
    rename_i cs
    have h2 : cs.size = 2 := hl
    have r0 := hr 0 cs[0] d' (by simp [h2]) rfl
    have r1 := hr 1 cs[1] _ (by simp [h2]) rfl
    obtain ⟨G', a, b, c⟩ := h w G cs[0] hi r0
    refine ⟨G', .tup hl fun j c d hc hd => ?_, b, c⟩
    match j with
    | 0 => simp [h2] at hc; simp at hd; subst hc; subst hd; exact a
    | 1 =>
      simp [h2] at hc; simp at hd; subst hc; subst hd
      obtain ⟨e1, e2⟩ := rv_v r1
      rw [e1]; exact .e (.v e2)
    | j + 2 => simp at hd
theorem Ar.Ok.fin_tupbs {A : Ar} (h : A.Ok) {l : List O} {i n k : Nat} {es : List (List E)} {x : Value} (hb : hpF l i = .box (es.flatten.map .e)) (hn : es.length = n) (hk : ∀ e ∈ es, e.length = k) : A.fin l (.tup [.bs i 0 n k, .e (.v x)]) (.tup [.e (.sl es), .e (.v x)]) :=
  h.fin _ _ _ fun _ => Ab.fin_tup2 (Ab.fin_bs hb hn hk)
/-- A node's stretch, over those of the nodes ahead. -/
def frS (d : Pd) (f : Int → Int) (i : Int) : Int :=
  if ¬ (1 ≤ d.K ∧ d.K ≤ 10) then -1 else
  if hasR d.K then (if 1 ≤ i ∧ d.R = i - 1 then (if hasL d.K then (if 1 ≤ f (i - 1) ∧ d.L = f (i - 1) - 1 then f (f (i - 1) - 1) else -1) else if d.L = 0 then f (i - 1) else -1) else -1)
  else if d.R = 0 then (if hasL d.K then (if 1 ≤ i ∧ d.L = i - 1 then f (i - 1) else -1) else if d.L = 0 then i else -1) else -1
theorem fr_step (d : Pd) (f : Int → Int) (i : Int) (hf : ∀ j, 0 ≤ j → j < i → 0 ≤ f j ∧ f j ≤ j) : (if formP d = true then chain f (kidsP d) i else -1) = frS d f i := by
  obtain ⟨K, T, M, Ex, Exs, L, R⟩ := d
  unfold frS formP kidsP
  simp only
  by_cases hK : 1 ≤ K ∧ K ≤ 10
  case neg => rw [if_pos hK, decide_eq_false hK]; simp
  rw [decide_eq_true hK, Bool.true_and, if_neg (show ¬ ¬ (1 ≤ K ∧ K ≤ 10) from fun h => h hK)]
  by_cases h : 1 ≤ i
  · have h1 := hf (i - 1) (by omega) (by omega)
    obtain ⟨a, ha⟩ : ∃ a, a = f (i - 1) := ⟨_, rfl⟩
    rw [← ha] at h1 ⊢
    have h2 : 1 ≤ a → 0 ≤ f (a - 1) := fun q => (hf (a - 1) (by omega) (by omega)).1
    obtain ⟨b, hb⟩ : ∃ b, b = f (a - 1) := ⟨_, rfl⟩
    rw [← hb] at h2 ⊢
    cases hasR K <;> cases hasL K
    all_goals
      simp only [Bool.false_or, Bool.true_or, Bool.true_and, Bool.and_true, Bool.false_eq_true, if_false, if_true, List.nil_append, List.append_nil, List.singleton_append, chain, ← ha, ← hb, decide_eq_true_eq, Bool.and_eq_true]
      clear ha hb hf hK
      grind
  · cases hasR K <;> cases hasL K
    all_goals
      simp only [Bool.false_or, Bool.true_or, Bool.true_and, Bool.and_true, Bool.false_eq_true, if_false, if_true, List.nil_append, List.append_nil, List.singleton_append, chain, decide_eq_true_eq, Bool.and_eq_true]
      clear hf hK
      grind
theorem kid_side {p a a' : Int} {n : Nat} {c : List Int} {ds : List D} (hd : ds = dsI c) (b : Bool) : Side (fun t => [.int p, .ref (t 0) 0, .ref (t 1) 0]) (fun t => [.box [.int a], .box [.bs (t 2) 0 n 1], .box ds]) (fun _ => .bool b) (fun t => [.box [.int a'], .box [.bs (t 2) 0 n 1], .box ds]) := by
  subst hd
  exact ⟨fun t => rfl, rfl, fun t => by simp only [List.map_cons, List.map_nil, O.ren, dsI_ren]; rfl, by
    intro o ho
    simp only [List.mem_cons, List.not_mem_nil, or_false] at ho
    rcases ho with rfl | rfl | rfl
    · rfl
    · rfl
    · simp only [O.lt, dsI_lt], fun t => rfl, fun t => by simp only [List.map_cons, List.map_nil, O.ren, dsI_ren]; rfl, by simp⟩
theorem kid_fin {A : Ar} (hA : A.Ok) {a a' : Int} {n : Nat} {c : List Int} {ds : List D} (hd : ds = dsI c) {l' : List O} {b : Bool} {d' : D} (h0 : hpF l' 0 = .box [.int a']) (h1 : hpF l' 1 = .box [.bs 2 0 n 1]) (h2 : hpF l' 2 = .box ds) (hb : .bool b = d') : A.finv [.box [.int a], .box [.bs 2 0 n 1], .box ds] l' d' [.box [.int a'], .box [.bs 2 0 n 1], .box ds] (.bool b) := by
  subst hd
  exact hA.finv _ _ _ _ _ (FinV.ren [0, 1, 2] (fun t => [.box [.int a'], .box [.bs (t 2) 0 n 1], .box (dsI c)]) (fun _ => .bool b) rfl (.inl hb) ⟨h0, h1, h2, trivial⟩ (fun t => rfl) rfl (fun t => by simp only [List.map_cons, List.map_nil, O.ren, dsI_ren]; rfl) (by
    intro o ho
    simp only [List.mem_cons, List.not_mem_nil, or_false] at ho
    rcases ho with rfl | rfl | rfl
    · rfl
    · rfl
    · simp only [O.lt, dsI_lt]))
set_option maxRecDepth 100000 in
theorem ok187 (p a a2 v : Int) (n : Nat) (c : List Int) (ds : List D) (hd : ds = dsI c) (hn : n = c.length) (hn2 : n ≤ 2000) (ha : -1 ≤ a ∧ a ≤ n) (ok : Bool) (hok : ok = decide (1 ≤ a ∧ p = a - 1)) (hv : ok = true → c[p.toNat]? = some v) (ha2 : a2 = if ok then v else a) :
    Proc Try.prog 187 (fun t => [.int p, .ref (t 0) 0, .ref (t 1) 0]) (fun t => [.box [.int a], .box [.bs (t 2) 0 n 1], .box ds]) (fun _ => .bool ok) (fun t => [.box [.int a2], .box [.bs (t 2) 0 n 1], .box ds]) := by
  refine procOf mixed p187 (kid_side hd ok) fun A P hA hP => ?_
  obtain ⟨z, hz⟩ : ∃ z, z = A.sub a 1 := ⟨_, rfl⟩
  have hz' : z = a - 1 := by rw [hz, hA.sub]
  rw [← hz'] at hok
  by_cases h1 : a < 1
  · have e1 : A.lt a 1 = true := by rw [hA.lt]; exact decide_eq_true h1
    have hf : ok = false := by rw [hok]; simp; omega
    subst hf
    rw [if_neg (by simp)] at ha2
    subst ha2
    cbv
    repeat' first | with_reducible rfl | (simp only [← hz]; cbv) | (simp only [e1]; cbv) | with_reducible refine And.intro ?_ ?_ | ((with_reducible intro hcc); first | (cases hcc; done) | skip) | ((with_reducible show goC _ _ _ _ _ _ _ _); cbv) | ((with_reducible show goOps _ _ _ _ _); cbv) | ((with_reducible show goD _ _ _ _ _ _); cbv) | ((with_reducible show okWr _ _ = _); rfl) | ((with_reducible refine hA.fin_pl _ _ _ ?_); cbv) | ((with_reducible refine hA.off _ _ _ _ fun b hb => ?_); cbv) | ((with_reducible refine hA.st _ _ _ _ _ ⟨?_, fun ds hds => ?_⟩); rotate_left; cbv) | ((with_reducible refine hA.gb0 true _ ?_); cbv) | ((with_reducible refine hA.gb0 false _ ?_); cbv) | ((with_reducible refine hA.gb _ _ fun vb hvb => ?_); cbv) | (simp only [hA.natLit, hA.natOf, hA.natCast]; cbv)
    all_goals try simp only [hA.add, hA.sub, hA.mul, hA.neg, hA.div, hA.mod, hA.mn, hA.mx, hA.eq, hA.lt, hA.le, hA.nat, hA.R, hA.lep, hA.ltp, hA.seq, inR, n_cast, Int.ofNat_eq_natCast, Option.getD_some, Option.getD_none] at *
    all_goals first | omega | exact kid_fin hA hd rfl rfl rfl rfl | (trace_state; fail)
  · have e1 : A.lt a 1 = false := by rw [hA.lt]; exact decide_eq_false h1
    by_cases h2 : p = z
    · have e2 : A.eq p z = true := by rw [hA.eq]; exact decide_eq_true h2
      have ht : ok = true := by rw [hok]; simp; omega
      subst ht
      rw [if_pos rfl] at ha2
      subst ha2
      have hg := hv rfl
      have hdl : ds.length = n := by rw [hd, dsI_len, hn]
      cbv
      repeat' first | with_reducible rfl | (simp only [e2]; cbv) | (simp only [← hz]; cbv) | (simp only [e1]; cbv) | with_reducible refine And.intro ?_ ?_ | ((with_reducible intro hcc); first | (cases hcc; done) | skip) | ((with_reducible show goC _ _ _ _ _ _ _ _); cbv) | ((with_reducible show goOps _ _ _ _ _); cbv) | ((with_reducible show goD _ _ _ _ _ _); cbv) | ((with_reducible show okWr _ _ = _); rfl) | ((with_reducible refine hA.ld1 _ _ _ ⟨?_, fun c hc => ?_⟩); rotate_left; (have e9 := dsI_get (v := a2) hd (by rw [← hg]; congr 1; omega) hc); subst e9; cbv) | ((with_reducible refine hA.fin_pl _ _ _ ?_); cbv) | ((with_reducible refine hA.off _ _ _ _ fun b hb => ?_); cbv) | ((with_reducible refine hA.st _ _ _ _ _ ⟨?_, fun ds hds => ?_⟩); rotate_left; cbv) | ((with_reducible refine hA.gb0 true _ ?_); cbv) | ((with_reducible refine hA.gb0 false _ ?_); cbv) | ((with_reducible refine hA.gb _ _ fun vb hvb => ?_); cbv) | (simp only [hA.natLit, hA.natOf, hA.natCast]; cbv)
      all_goals try simp only [hA.add, hA.sub, hA.mul, hA.neg, hA.div, hA.mod, hA.mn, hA.mx, hA.eq, hA.lt, hA.le, hA.nat, hA.R, hA.lep, hA.ltp, hA.seq, inR, n_cast, Int.ofNat_eq_natCast, Option.getD_some, Option.getD_none] at *
      all_goals first | omega | exact kid_fin hA hd rfl rfl rfl rfl | (trace_state; fail)
    · have e2 : A.eq p z = false := by rw [hA.eq]; exact decide_eq_false h2
      have hf : ok = false := by rw [hok]; simp; omega
      subst hf
      rw [if_neg (by simp)] at ha2
      subst ha2
      cbv
      repeat' first | with_reducible rfl | (simp only [e2]; cbv) | (simp only [← hz]; cbv) | (simp only [e1]; cbv) | with_reducible refine And.intro ?_ ?_ | ((with_reducible intro hcc); first | (cases hcc; done) | skip) | ((with_reducible show goC _ _ _ _ _ _ _ _); cbv) | ((with_reducible show goOps _ _ _ _ _); cbv) | ((with_reducible show goD _ _ _ _ _ _); cbv) | ((with_reducible show okWr _ _ = _); rfl) | ((with_reducible refine hA.fin_pl _ _ _ ?_); cbv) | ((with_reducible refine hA.off _ _ _ _ fun b hb => ?_); cbv) | ((with_reducible refine hA.st _ _ _ _ _ ⟨?_, fun ds hds => ?_⟩); rotate_left; cbv) | ((with_reducible refine hA.gb0 true _ ?_); cbv) | ((with_reducible refine hA.gb0 false _ ?_); cbv) | ((with_reducible refine hA.gb _ _ fun vb hvb => ?_); cbv) | (simp only [hA.natLit, hA.natOf, hA.natCast]; cbv)
      all_goals try simp only [hA.add, hA.sub, hA.mul, hA.neg, hA.div, hA.mod, hA.mn, hA.mx, hA.eq, hA.lt, hA.le, hA.nat, hA.R, hA.lep, hA.ltp, hA.seq, inR, n_cast, Int.ofNat_eq_natCast, Option.getD_some, Option.getD_none] at *
      all_goals first | omega | exact kid_fin hA hd rfl rfl rfl rfl | (trace_state; fail)
theorem fok321 : fOK Try.prog 187 := ⟨_, Try.func187, by decide, rfl⟩
def allF (ns : List Pd) : Prop := (1 ≤ ns.length ∧ ns.length ≤ 2000) ∧ ∀ i, i < ns.length → 0 ≤ fr ns i
theorem ord_allF {ns : List Pd} : ordOk ns = true ↔ allF ns ∧ fr ns (ns.length - 1) = 0 := by
  constructor
  · intro h
    have h2 := ord_all h
    simp only [ordOk, Bool.and_eq_true, decide_eq_true_eq] at h
    exact ⟨⟨h.1, h2⟩, h.2⟩
  · intro ⟨h1, h2⟩
    simp only [ordOk, Bool.and_eq_true, decide_eq_true_eq]
    exact ⟨h1.1, h2⟩
/-- The things of the loop. -/
theorem sb_side {env : RF → List (Nat × D)} {x : List (List E)} {c : List Int} {ds : List D} {n : Nat} (h1 : ds = dsI c) (he : ∀ t, env t = renEnv t (env id)) (hl : ltEnv 3 (env id) = true) : SideW env (fun t => [.box [.e (.sl x)], .box ds, .box [.bs (t 1) 0 n 1]]) := by
  subst h1
  exact ⟨he, hl, fun t => by simp only [List.map_cons, List.map_nil, O.ren, dsI_ren]; rfl, by
    intro o ho
    simp only [List.mem_cons, List.not_mem_nil, or_false] at ho
    rcases ho with rfl | rfl | rfl
    · rfl
    · simp only [O.lt, dsI_lt]
    · rfl⟩
set_option maxRecDepth 100000 in
set_option maxHeartbeats 8000000 in
theorem ok146 (ns : List Pd) (x : List (List E)) (hx : x = ns.map pdr) (hxl : x.length ≤ 1048576) (aok b : Bool) (haok : aok = true ↔ allF ns) (hord : b = ordOk ns) (xs : List (List E)) (hxs : xs = if aok then ((List.range ns.length).map (fr ns)).map ir else []) :
    Plain Try.prog 146 [.agg [.e (.sl x)]] (.tup [.e (.sl xs), .bool b]) := okOf mixed p146 fun A P hA hP => (by
  have hxn : x.length = ns.length := by rw [hx]; simp
  obtain ⟨ze, hze⟩ : ∃ z : Int, z = x.length := ⟨_, rfl⟩
  obtain ⟨n, hn⟩ : ∃ n : Nat, n = x.length := ⟨_, rfl⟩
  have hf' : ∃ func, P.funcs[187]? = some func ∧ ¬func.name = "runtime.NumGoroutine" ∧ func.body.isNone = false := hP ▸ fok321
  have hbad : ¬ allF ns → xs = [] ∧ b = false := fun h => by
    have h1 : aok = false := by cases aok <;> simp_all
    refine ⟨by rw [hxs, h1]; rfl, ?_⟩
    rw [hord]
    cases e : ordOk ns
    · rfl
    · exact absurd (ord_allF.1 e).1 h
  by_cases h1 : ze < 1
  · have e1 : A.lt ze 1 = true := by rw [hA.lt]; exact decide_eq_true h1
    obtain ⟨rfl, rfl⟩ := hbad fun h => by have := h.1; omega
    cbv
    repeat' first | with_reducible rfl | (simp only [e1]; cbv) | with_reducible refine And.intro ?_ ?_ | ((with_reducible intro hcc); first | (cases hcc; done) | skip) | ((with_reducible show goC _ _ _ _ _ _ _ _); cbv) | ((with_reducible show goOps _ _ _ _ _); cbv) | ((with_reducible show goD _ _ _ _ _ _); cbv) | ((with_reducible show okWr _ _ = _); rfl) | (with_reducible refine hA.fin_tup _ _ _ ?_) | ((with_reducible refine hA.len x _ _ _ _ fun z hz hb => ?_); (have e6 := hze.trans hz.symm); subst e6; cbv) | ((with_reducible refine hA.fin_pl _ _ _ ?_); cbv) | ((with_reducible refine hA.len _ _ _ _ _ fun z hz hb => ?_); cbv) | ((with_reducible refine hA.off _ _ _ _ fun b hb => ?_); cbv) | ((with_reducible refine hA.plus _ _ _ fun b hb => ?_); cbv) | ((with_reducible refine hA.rep _ _ _ fun ds m hds hm => ?_); cbv) | ((with_reducible refine hA.st _ _ _ _ _ ⟨?_, fun ds hds => ?_⟩); rotate_left; cbv) | ((with_reducible refine hA.alt _ _ (Or.inl ?_)); cbv) | ((with_reducible refine hA.sapp _ _ _ ⟨?_, fun sl hsl => ?_⟩); rotate_left; cbv) | ((with_reducible refine hA.gb0 true _ ?_); cbv) | ((with_reducible refine hA.gb0 false _ ?_); cbv) | ((with_reducible refine hA.gb _ _ fun vb hvb => ?_); cbv) | (simp only [hA.natLit, hA.natOf, hA.natCast]; cbv)
    all_goals try simp only [hA.add, hA.sub, hA.mul, hA.neg, hA.div, hA.mod, hA.mn, hA.mx, hA.eq, hA.lt, hA.le, hA.nat, hA.R, hA.lep, hA.ltp, hA.seq, inR, n_cast, Int.ofNat_eq_natCast, Option.getD_some, Option.getD_none] at *
    all_goals first | omega | rfl | trivial | (trace_state; fail)
  have e1 : A.lt ze 1 = false := by rw [hA.lt]; exact decide_eq_false h1
  by_cases h2 : 2000 < ze
  · have e2 : A.lt 2000 ze = true := by rw [hA.lt]; exact decide_eq_true h2
    obtain ⟨rfl, rfl⟩ := hbad fun h => by have := h.1; omega
    cbv
    repeat' first | with_reducible rfl | (simp only [e2]; cbv) | (simp only [e1]; cbv) | with_reducible refine And.intro ?_ ?_ | ((with_reducible intro hcc); first | (cases hcc; done) | skip) | ((with_reducible show goC _ _ _ _ _ _ _ _); cbv) | ((with_reducible show goOps _ _ _ _ _); cbv) | ((with_reducible show goD _ _ _ _ _ _); cbv) | ((with_reducible show okWr _ _ = _); rfl) | (with_reducible refine hA.fin_tup _ _ _ ?_) | ((with_reducible refine hA.len x _ _ _ _ fun z hz hb => ?_); (have e6 := hze.trans hz.symm); subst e6; cbv) | ((with_reducible refine hA.fin_pl _ _ _ ?_); cbv) | ((with_reducible refine hA.len _ _ _ _ _ fun z hz hb => ?_); cbv) | ((with_reducible refine hA.off _ _ _ _ fun b hb => ?_); cbv) | ((with_reducible refine hA.plus _ _ _ fun b hb => ?_); cbv) | ((with_reducible refine hA.rep _ _ _ fun ds m hds hm => ?_); cbv) | ((with_reducible refine hA.st _ _ _ _ _ ⟨?_, fun ds hds => ?_⟩); rotate_left; cbv) | ((with_reducible refine hA.alt _ _ (Or.inl ?_)); cbv) | ((with_reducible refine hA.sapp _ _ _ ⟨?_, fun sl hsl => ?_⟩); rotate_left; cbv) | ((with_reducible refine hA.gb0 true _ ?_); cbv) | ((with_reducible refine hA.gb0 false _ ?_); cbv) | ((with_reducible refine hA.gb _ _ fun vb hvb => ?_); cbv) | (simp only [hA.natLit, hA.natOf, hA.natCast]; cbv)
    all_goals try simp only [hA.add, hA.sub, hA.mul, hA.neg, hA.div, hA.mod, hA.mn, hA.mx, hA.eq, hA.lt, hA.le, hA.nat, hA.R, hA.lep, hA.ltp, hA.seq, inR, n_cast, Int.ofNat_eq_natCast, Option.getD_some, Option.getD_none] at *
    all_goals first | omega | rfl | trivial | (trace_state; fail)
  have e2 : A.lt 2000 ze = false := by rw [hA.lt]; exact decide_eq_false h2
  cbv
  repeat' first | with_reducible rfl | (simp only [e2]; cbv) | (simp only [e1]; cbv) | with_reducible refine And.intro ?_ ?_ | ((with_reducible intro hcc); first | (cases hcc; done) | skip) | ((with_reducible show goC _ _ _ _ _ _ _ _); cbv) | ((with_reducible show goOps _ _ _ _ _); cbv) | ((with_reducible show goD _ _ _ _ _ _); cbv) | ((with_reducible show okWr _ _ = _); rfl) | ((with_reducible refine hA.len x _ _ _ _ fun z hz hb => ?_); (have e6 := hze.trans hz.symm); subst e6; cbv) | ((with_reducible refine hA.rep _ _ _ fun ds m hds hm => ?_); (have e7 : n = m := (by rw [hn, hm, hze]; rfl)); subst e7; cbv) | ((with_reducible refine hA.fin_pl _ _ _ ?_); cbv) | ((with_reducible refine hA.len _ _ _ _ _ fun z hz hb => ?_); cbv) | ((with_reducible refine hA.off _ _ _ _ fun b hb => ?_); cbv) | ((with_reducible refine hA.plus _ _ _ fun b hb => ?_); cbv) | ((with_reducible refine hA.rep _ _ _ fun ds m hds hm => ?_); cbv) | ((with_reducible refine hA.st _ _ _ _ _ ⟨?_, fun ds hds => ?_⟩); rotate_left; cbv) | ((with_reducible refine hA.alt _ _ (Or.inl ?_)); cbv) | ((with_reducible refine hA.sapp _ _ _ ⟨?_, fun sl hsl => ?_⟩); rotate_left; cbv) | ((with_reducible refine hA.gb0 true _ ?_); cbv) | ((with_reducible refine hA.gb0 false _ ?_); cbv) | ((with_reducible refine hA.gb _ _ fun vb hvb => ?_); cbv) | (simp only [hA.natLit, hA.natOf, hA.natCast]; cbv)
  all_goals try simp only [hA.add, hA.sub, hA.mul, hA.neg, hA.div, hA.mod, hA.mn, hA.mx, hA.eq, hA.lt, hA.le, hA.nat, hA.R, hA.lep, hA.ltp, hA.seq, inR, n_cast, Int.ofNat_eq_natCast, Option.getD_some, Option.getD_none] at *
  all_goals try omega
  rename_i ds0 hds0 _
  have e1 : A.lt ze 1 = false := by rw [hA.lt]; exact decide_eq_false h1
  refine hA.loopI (fun mm s => ∃ (i : Int) (c1 : List Int) (ds1 : List D), 0 ≤ i ∧ mm + i = x.length ∧ c1.length = n ∧ (∀ j : Nat, (j : Int) < i → 0 ≤ fr ns j ∧ c1[j]? = some (fr ns j)) ∧ ds1 = dsI c1 ∧
      s = ⟨[(26, .int i), (25, .int ze), (24, .e (.sl x)), (4, .ref 2 0), (1, .ref 0 0), (2, .zs), (3, .bool false)], [.box [.e (.sl x)], .box ds1, .box [.bs 1 0 n 1]]⟩) x.length _
    (Weak.keep (env' := [(26, .int 0), (25, .int ze), (24, .e (.sl x)), (4, .ref 2 0), (1, .ref 0 0), (2, .zs), (3, .bool false)]) ⟨rfl, rfl, rfl, rfl, rfl, rfl, rfl, trivial⟩)
    ⟨0, List.replicate n 0, _, by omega, by omega, by simp, (fun j h => by omega), (by rw [← rep_dsI n, show n = ze.toNat by omega]; assumption), rfl⟩ ?_
  rintro m s K' ⟨i, c1, ds1, i0, i1, i2, i4, hd1, rfl⟩ hK
  have hl1 : ds1.length = n := by rw [hd1, dsI_len, i2]
  by_cases hi : (0 : Int) ≤ i ∧ i < x.length
  case neg =>
    have e8 : A.lt i ze = false := by rw [hA.lt]; exact decide_eq_false (by omega)
    have hall : allF ns := ⟨by omega, fun j hj => (i4 j (by omega)).1⟩
    have hc1 : c1 = (List.range ns.length).map (fr ns) := by
      refine List.ext_getElem? fun j => ?_
      by_cases hj : j < ns.length
      · rw [(i4 j (by omega)).2, List.getElem?_map, List.getElem?_range hj]; rfl
      · rw [List.getElem?_eq_none (by omega), List.getElem?_eq_none (by simp; omega)]
    have hxs2 : xs = c1.map ir := by rw [hxs, haok.2 hall, hc1]; rfl
    obtain ⟨zl, hzl⟩ : ∃ z, z = A.sub ze 1 := ⟨_, rfl⟩
    have hzl2 : zl = ze - 1 := by rw [hzl, hA.sub]
    obtain ⟨v, hv⟩ : ∃ v, v = fr ns (ns.length - 1) := ⟨_, rfl⟩
    have hg : c1[zl.toNat]? = some v := by rw [show zl.toNat = ns.length - 1 by omega, (i4 _ (by omega)).2, hv]
    have hb2 : b = decide (v = 0) := by
      rw [hord, hv]
      cases e : ordOk ns
      · rw [eq_comm, decide_eq_false_iff_not]; intro h; rw [ord_allF.2 ⟨hall, h⟩] at e; cases e
      · rw [eq_comm, decide_eq_true_eq]; exact (ord_allF.1 e).2
    have vb : A.eq v 0 = b := by rw [hA.eq, hb2]
    have hds : ds1 = xs.flatten.map D.e := by rw [hd1, hxs2, dsI_flat]
    have hxk : ∀ e ∈ xs, e.length = 1 := by rw [hxs2]; intro e h; obtain ⟨q, _, rfl⟩ := List.mem_map.1 h; rfl
    have hnz : A.sub (n : Int) 1 = zl := by rw [hzl, show (n : Int) = ze by omega]
    have hnz2 : A.sub (Int.ofNat n) 1 = zl := hnz
    clear hK i4 hv hb2 hord hxs hbad haok
    cbv
    repeat' first | with_reducible rfl | (simp only [vb]; cbv) | (simp only [hnz2]; cbv) | (simp only [hnz]; cbv) | (simp only [e8]; cbv) | with_reducible refine And.intro ?_ ?_ | ((with_reducible intro hcc); first | (cases hcc; done) | skip) | ((with_reducible show goC _ _ _ _ _ _ _ _); cbv) | ((with_reducible show goOps _ _ _ _ _); cbv) | ((with_reducible show goD _ _ _ _ _ _); cbv) | ((with_reducible show okWr _ _ = _); rfl) | ((with_reducible refine hA.fin_tupbs (es := xs) ?_ ?_ hxk)) | ((with_reducible refine hA.ld1 _ _ _ ⟨?_, fun c hc => ?_⟩); rotate_left; (have e9 := dsI_get hd1 (show _ = some v by rw [← hg]; congr 1; omega) hc); subst e9; cbv) | ((with_reducible refine hA.fin_pl _ _ _ ?_); cbv) | ((with_reducible refine hA.len _ _ _ _ _ fun z hz hb => ?_); cbv) | ((with_reducible refine hA.off _ _ _ _ fun b hb => ?_); cbv) | ((with_reducible refine hA.plus _ _ _ fun b hb => ?_); cbv) | ((with_reducible refine hA.rep _ _ _ fun ds m hds hm => ?_); cbv) | ((with_reducible refine hA.st _ _ _ _ _ ⟨?_, fun ds hds => ?_⟩); rotate_left; cbv) | ((with_reducible refine hA.alt _ _ (Or.inl ?_)); cbv) | ((with_reducible refine hA.sapp _ _ _ ⟨?_, fun sl hsl => ?_⟩); rotate_left; cbv) | ((with_reducible refine hA.gb0 true _ ?_); cbv) | ((with_reducible refine hA.gb0 false _ ?_); cbv) | ((with_reducible refine hA.gb _ _ fun vb hvb => ?_); cbv) | (simp only [hA.natLit, hA.natOf, hA.natCast]; cbv)
    all_goals try simp only [hA.add, hA.sub, hA.mul, hA.neg, hA.div, hA.mod, hA.mn, hA.mx, hA.eq, hA.lt, hA.le, hA.nat, hA.R, hA.lep, hA.ltp, hA.seq, inR, n_cast, Int.ofNat_eq_natCast, Option.getD_some, Option.getD_none] at *
    all_goals first
      | omega
      | (rw [hds]; rfl)
      | (rw [hxs2, List.length_map]; exact i2)
      | (rw [hxs2]; intro e h; obtain ⟨q, _, rfl⟩ := List.mem_map.1 h; rfl)
      | (trace_state; fail)
  case pos =>
    have e8 : A.lt i ze = true := by rw [hA.lt]; exact decide_eq_true (by omega)
    obtain ⟨K, T, M, Ex, Exs, L, R, xe, ye, q0, qm, hxe, hye, q1⟩ := pd_at hx hi
    obtain ⟨f, hf⟩ : ∃ f : Int → Int, f = fun j => fr ns j.toNat := ⟨_, rfl⟩
    have hfj : ∀ j, 0 ≤ j → j < i → (0 ≤ f j ∧ f j ≤ j) ∧ c1[j.toNat]? = some (f j) := fun j a b => by
      have := i4 j.toNat (by omega)
      have := fr_le ns j.toNat
      rw [hf]
      refine ⟨⟨?_, ?_⟩, ?_⟩ <;> simp only <;> first | omega | (exact (i4 j.toNat (by omega)).2)
    obtain ⟨s0, hs0⟩ : ∃ s, s = fr ns i.toNat := ⟨_, rfl⟩
    have hst : s0 = frS ⟨K, T, M, Ex, Exs, L, R⟩ f i := by
      rw [hs0, fr_eq, q0, ← hf, show ((i.toNat : Nat) : Int) = i by omega]
      exact fr_step _ f i fun j a b => (hfj j a b).1
    have hbad2 : s0 = -1 → xs = [] ∧ b = false := fun h => hbad fun q => by
      have := q.2 i.toNat (by omega)
      omega
    have hok : ∀ a : Int, s0 = a → 0 ≤ a → ∀ env ds' o3 o4, ds' = dsI (c1.set i.toNat a) → subL [(26, .int (i + 1)), (25, .int ze), (24, .e (.sl x)), (4, .ref 2 0), (1, .ref 0 0), (2, .zs), (3, .bool false)] env → K' ⟨env, [.box [.e (.sl x)], .box ds', .box [.bs 1 0 n 1], o3, o4]⟩ := fun a ha h0 env ds' o3 o4 hds hs => by
      refine hK _ (m - 1) _ (by omega) (Weak.ren (l0 := []) [0, 1, 2] (fun t => [(26, .int (i + 1)), (25, .int ze), (24, .e (.sl x)), (4, .ref (t 2) 0), (1, .ref (t 0) 0), (2, .zs), (3, .bool false)]) (fun t => [.box [.e (.sl x)], .box ds', .box [.bs (t 1) 0 n 1]]) rfl ?_ ⟨rfl, rfl, rfl, trivial⟩ (sb_side hds (fun t => rfl) rfl))
        ⟨i + 1, c1.set i.toNat a, ds', by omega, by omega, by simp [i2], fun j hj => ?_, hds, rfl⟩
      · obtain ⟨w1, w2, w3, w4, w5, w6, w7, _⟩ := hs
        exact ⟨.inl w1, .inl w2, .inl w3, .inl w4, .inl w5, .inl w6, .inl w7, trivial⟩
      · by_cases hji : (j : Int) < i
        · rw [List.getElem?_set_ne (show i.toNat ≠ j by omega)]; exact i4 j hji
        · have : j = i.toNat := by omega
          subst this
          exact ⟨by rw [← hs0, ha]; exact h0, by rw [List.getElem?_set_self (by omega), ← hs0, ha]⟩
    clear hK i4 hs0 hbad hord hxs haok q0
    have hset : ∀ {b : Nat} {ds : List D} {a : Int}, ds = ds1.take b ++ [.int a] ++ ds1.drop (b + 1) → b = 0 + i.toNat * 1 → ds = dsI (c1.set i.toNat a) := fun {b ds a} h1 h2 =>
      dsI_set hd1 (by omega) (by rw [h1, show b = i.toNat by omega])
    have h252 := ok91 K
    have h251 := ok90 K
    obtain ⟨bR, hbR⟩ : ∃ b, b = hasR K := ⟨_, rfl⟩
    obtain ⟨bL, hbL⟩ : ∃ b, b = hasL K := ⟨_, rfl⟩
    rw [← hbR] at h252
    rw [← hbL] at h251
    simp only [frS, ← hbR, ← hbL] at hst
    by_cases hK1 : K < 1
    · have k1 : A.lt K 1 = true := by rw [hA.lt]; exact decide_eq_true hK1
      obtain ⟨rfl, rfl⟩ := hbad2 (by rw [hst, if_pos (by omega)])
      clear hok hst hbad2 hfj
      cbv
      repeat' first | with_reducible rfl | (simp only [k1]; cbv) | (simp only [e8]; cbv) | with_reducible refine And.intro ?_ ?_ | ((with_reducible intro hcc); first | (cases hcc; done) | skip) | ((with_reducible show goC _ _ _ _ _ _ _ _); cbv) | ((with_reducible show goOps _ _ _ _ _); cbv) | ((with_reducible show goD _ _ _ _ _ _); cbv) | ((with_reducible show okWr _ _ = _); rfl) | (with_reducible refine hA.fin_tup _ _ _ ?_) | ((with_reducible refine hA.row x i _ ⟨hi, fun row hrow => ?_⟩); rw [q1] at hrow; subst hrow; cbv) | ((with_reducible refine hA.st [_, _, _, _, _, _, _] _ _ _ _ ⟨?_, fun ds hds => ?_⟩); rotate_left; (have hds : ds = [.int K, .int T, .int M, .e (.sl xe), .e (.sl ye), .int L, .int R] := hds); subst hds; cbv) | ((with_reducible refine hA.fin_pl _ _ _ ?_); cbv) | ((with_reducible refine hA.len _ _ _ _ _ fun z hz hb => ?_); cbv) | ((with_reducible refine hA.off _ _ _ _ fun b hb => ?_); cbv) | ((with_reducible refine hA.plus _ _ _ fun b hb => ?_); cbv) | ((with_reducible refine hA.rep _ _ _ fun ds m hds hm => ?_); cbv) | ((with_reducible refine hA.st _ _ _ _ _ ⟨?_, fun ds hds => ?_⟩); rotate_left; cbv) | ((with_reducible refine hA.alt _ _ (Or.inl ?_)); cbv) | ((with_reducible refine hA.sapp _ _ _ ⟨?_, fun sl hsl => ?_⟩); rotate_left; cbv) | ((with_reducible refine hA.gb0 true _ ?_); cbv) | ((with_reducible refine hA.gb0 false _ ?_); cbv) | ((with_reducible refine hA.gb _ _ fun vb hvb => ?_); cbv) | (simp only [hA.natLit, hA.natOf, hA.natCast]; cbv)
      all_goals try simp only [hA.add, hA.sub, hA.mul, hA.neg, hA.div, hA.mod, hA.mn, hA.mx, hA.eq, hA.lt, hA.le, hA.nat, hA.R, hA.lep, hA.ltp, hA.seq, inR, n_cast, Int.ofNat_eq_natCast, Option.getD_some, Option.getD_none] at *
      all_goals first | omega | rfl | trivial | (simp; done) | (trace_state; fail)
    have k1 : A.lt K 1 = false := by rw [hA.lt]; exact decide_eq_false hK1
    by_cases hK2 : 10 < K
    · have k2 : A.lt 10 K = true := by rw [hA.lt]; exact decide_eq_true hK2
      obtain ⟨rfl, rfl⟩ := hbad2 (by rw [hst, if_pos (by omega)])
      clear hok hst hbad2 hfj
      cbv
      repeat' first | with_reducible rfl | (simp only [k2]; cbv) | (simp only [k1]; cbv) | (simp only [e8]; cbv) | with_reducible refine And.intro ?_ ?_ | ((with_reducible intro hcc); first | (cases hcc; done) | skip) | ((with_reducible show goC _ _ _ _ _ _ _ _); cbv) | ((with_reducible show goOps _ _ _ _ _); cbv) | ((with_reducible show goD _ _ _ _ _ _); cbv) | ((with_reducible show okWr _ _ = _); rfl) | (with_reducible refine hA.fin_tup _ _ _ ?_) | ((with_reducible refine hA.row x i _ ⟨hi, fun row hrow => ?_⟩); rw [q1] at hrow; subst hrow; cbv) | ((with_reducible refine hA.st [_, _, _, _, _, _, _] _ _ _ _ ⟨?_, fun ds hds => ?_⟩); rotate_left; (have hds : ds = [.int K, .int T, .int M, .e (.sl xe), .e (.sl ye), .int L, .int R] := hds); subst hds; cbv) | ((with_reducible refine hA.fin_pl _ _ _ ?_); cbv) | ((with_reducible refine hA.len _ _ _ _ _ fun z hz hb => ?_); cbv) | ((with_reducible refine hA.off _ _ _ _ fun b hb => ?_); cbv) | ((with_reducible refine hA.plus _ _ _ fun b hb => ?_); cbv) | ((with_reducible refine hA.rep _ _ _ fun ds m hds hm => ?_); cbv) | ((with_reducible refine hA.st _ _ _ _ _ ⟨?_, fun ds hds => ?_⟩); rotate_left; cbv) | ((with_reducible refine hA.alt _ _ (Or.inl ?_)); cbv) | ((with_reducible refine hA.sapp _ _ _ ⟨?_, fun sl hsl => ?_⟩); rotate_left; cbv) | ((with_reducible refine hA.gb0 true _ ?_); cbv) | ((with_reducible refine hA.gb0 false _ ?_); cbv) | ((with_reducible refine hA.gb _ _ fun vb hvb => ?_); cbv) | (simp only [hA.natLit, hA.natOf, hA.natCast]; cbv)
      all_goals try simp only [hA.add, hA.sub, hA.mul, hA.neg, hA.div, hA.mod, hA.mn, hA.mx, hA.eq, hA.lt, hA.le, hA.nat, hA.R, hA.lep, hA.ltp, hA.seq, inR, n_cast, Int.ofNat_eq_natCast, Option.getD_some, Option.getD_none] at *
      all_goals first | omega | rfl | trivial | (simp; done) | (trace_state; fail)
    have k2 : A.lt 10 K = false := by rw [hA.lt]; exact decide_eq_false hK2
    rw [if_neg (by omega)] at hst
    clear hbR hbL
    cases bR
    · rw [if_neg (by simp)] at hst
      by_cases hR0 : R = 0
      · have vr0 : A.eq R 0 = true := by rw [hA.eq]; exact decide_eq_true hR0
        rw [if_pos hR0] at hst
        cases bL
        · by_cases hL0 : L = 0
          · have vl0 : A.eq L 0 = true := by rw [hA.eq]; exact decide_eq_true hL0
            have hok2 := hok i (by rw [hst, if_neg (by simp), if_pos hL0]) (by omega)
            clear hok hst hbad2 hfj
            cbv
            repeat' first | with_reducible rfl | (simp only [vl0]; cbv) | (simp only [vr0]; cbv) | (simp only [k2]; cbv) | (simp only [k1]; cbv) | (simp only [e8]; cbv) | with_reducible refine And.intro ?_ ?_ | ((with_reducible intro hcc); first | (cases hcc; done) | skip) | ((with_reducible show goC _ _ _ _ _ _ _ _); cbv) | ((with_reducible show goOps _ _ _ _ _); cbv) | ((with_reducible show goD _ _ _ _ _ _); cbv) | ((with_reducible show okWr _ _ = _); rfl) | ((with_reducible refine callK_eq hA hP ?_ ?_ ?_ (Wks.refl _) (fun _ _ => h252)); exact rfl; exact rfl; cbv) | ((with_reducible refine callK_eq hA hP ?_ ?_ ?_ (Wks.refl _) (fun _ _ => h251)); exact rfl; exact rfl; cbv) | ((with_reducible show A.call _ _ _ _ false _ _ _ _); refine callK_no hA (.bool false) ?_; cbv) | ((with_reducible refine hA.len x _ _ _ _ fun z hz hb => ?_); (have e6 := hze.trans hz.symm); subst e6; cbv) | ((with_reducible refine hA.row x i _ ⟨hi, fun row hrow => ?_⟩); rw [q1] at hrow; subst hrow; cbv) | ((with_reducible refine hA.st [_, _, _, _, _, _, _] _ _ _ _ ⟨?_, fun ds hds => ?_⟩); rotate_left; (have hds : ds = [.int K, .int T, .int M, .e (.sl xe), .e (.sl ye), .int L, .int R] := hds); subst hds; cbv) | ((with_reducible refine hA.fin_pl _ _ _ ?_); cbv) | ((with_reducible refine hA.len _ _ _ _ _ fun z hz hb => ?_); cbv) | ((with_reducible refine hA.off _ _ _ _ fun b hb => ?_); cbv) | ((with_reducible refine hA.plus _ _ _ fun b hb => ?_); cbv) | ((with_reducible refine hA.rep _ _ _ fun ds m hds hm => ?_); cbv) | ((with_reducible refine hA.st _ _ _ _ _ ⟨?_, fun ds hds => ?_⟩); rotate_left; cbv) | ((with_reducible refine hA.alt _ _ (Or.inl ?_)); cbv) | ((with_reducible refine hA.sapp _ _ _ ⟨?_, fun sl hsl => ?_⟩); rotate_left; cbv) | ((with_reducible refine hA.gb0 true _ ?_); cbv) | ((with_reducible refine hA.gb0 false _ ?_); cbv) | ((with_reducible refine hA.gb _ _ fun vb hvb => ?_); cbv) | (simp only [hA.natLit, hA.natOf, hA.natCast]; cbv)
            all_goals try simp only [hA.add, hA.sub, hA.mul, hA.neg, hA.div, hA.mod, hA.mn, hA.mx, hA.eq, hA.lt, hA.le, hA.nat, hA.R, hA.lep, hA.ltp, hA.seq, inR, n_cast, Int.ofNat_eq_natCast, Option.getD_some, Option.getD_none] at *
            all_goals first
              | omega
              | exact hf'
              | trivial
              | exact hok2 _ _ _ _ (hset hds hb) ⟨rfl, rfl, rfl, rfl, rfl, rfl, rfl, trivial⟩
              | (rw [hl1]; omega)
              | (simp; done)
              | (trace_state; fail)
          · have vl0 : A.eq L 0 = false := by rw [hA.eq]; exact decide_eq_false hL0
            obtain ⟨rfl, rfl⟩ := hbad2 (by rw [hst, if_neg (by simp), if_neg hL0])
            clear hok hst hbad2 hfj
            cbv
            repeat' first | with_reducible rfl | (simp only [vl0]; cbv) | (simp only [vr0]; cbv) | (simp only [k2]; cbv) | (simp only [k1]; cbv) | (simp only [e8]; cbv) | with_reducible refine And.intro ?_ ?_ | ((with_reducible intro hcc); first | (cases hcc; done) | skip) | ((with_reducible show goC _ _ _ _ _ _ _ _); cbv) | ((with_reducible show goOps _ _ _ _ _); cbv) | ((with_reducible show goD _ _ _ _ _ _); cbv) | ((with_reducible show okWr _ _ = _); rfl) | ((with_reducible refine callK_eq hA hP ?_ ?_ ?_ (Wks.refl _) (fun _ _ => h252)); exact rfl; exact rfl; cbv) | ((with_reducible refine callK_eq hA hP ?_ ?_ ?_ (Wks.refl _) (fun _ _ => h251)); exact rfl; exact rfl; cbv) | (with_reducible refine hA.fin_tup _ _ _ ?_) | ((with_reducible show A.call _ _ _ _ false _ _ _ _); refine callK_no hA (.bool false) ?_; cbv) | ((with_reducible refine hA.len x _ _ _ _ fun z hz hb => ?_); (have e6 := hze.trans hz.symm); subst e6; cbv) | ((with_reducible refine hA.row x i _ ⟨hi, fun row hrow => ?_⟩); rw [q1] at hrow; subst hrow; cbv) | ((with_reducible refine hA.st [_, _, _, _, _, _, _] _ _ _ _ ⟨?_, fun ds hds => ?_⟩); rotate_left; (have hds : ds = [.int K, .int T, .int M, .e (.sl xe), .e (.sl ye), .int L, .int R] := hds); subst hds; cbv) | ((with_reducible refine hA.fin_pl _ _ _ ?_); cbv) | ((with_reducible refine hA.len _ _ _ _ _ fun z hz hb => ?_); cbv) | ((with_reducible refine hA.off _ _ _ _ fun b hb => ?_); cbv) | ((with_reducible refine hA.plus _ _ _ fun b hb => ?_); cbv) | ((with_reducible refine hA.rep _ _ _ fun ds m hds hm => ?_); cbv) | ((with_reducible refine hA.st _ _ _ _ _ ⟨?_, fun ds hds => ?_⟩); rotate_left; cbv) | ((with_reducible refine hA.alt _ _ (Or.inl ?_)); cbv) | ((with_reducible refine hA.sapp _ _ _ ⟨?_, fun sl hsl => ?_⟩); rotate_left; cbv) | ((with_reducible refine hA.gb0 true _ ?_); cbv) | ((with_reducible refine hA.gb0 false _ ?_); cbv) | ((with_reducible refine hA.gb _ _ fun vb hvb => ?_); cbv) | (simp only [hA.natLit, hA.natOf, hA.natCast]; cbv)
            all_goals try simp only [hA.add, hA.sub, hA.mul, hA.neg, hA.div, hA.mod, hA.mn, hA.mx, hA.eq, hA.lt, hA.le, hA.nat, hA.R, hA.lep, hA.ltp, hA.seq, inR, n_cast, Int.ofNat_eq_natCast, Option.getD_some, Option.getD_none] at *
            all_goals first | omega | exact hf' | rfl | trivial | (simp; done) | (trace_state; fail)
        · obtain ⟨okl, hokl⟩ : ∃ b, b = decide (1 ≤ i ∧ L = i - 1) := ⟨_, rfl⟩
          obtain ⟨al, hal⟩ : ∃ v, v = if okl then f (i - 1) else i := ⟨_, rfl⟩
          have hl := ok187 L i al (f (i - 1)) n c1 ds1 hd1 i2.symm (by omega) (by omega) okl hokl (fun h => by
            have h' : 1 ≤ i ∧ L = i - 1 := by rw [hokl] at h; exact of_decide_eq_true h
            rw [h'.2]; exact (hfj _ (by omega) (by omega)).2) hal
          have vL : okl = true ↔ (1 ≤ i ∧ L = i - 1) := by rw [hokl]; exact decide_eq_true_iff
          clear hokl
          cases okl
          · rw [if_neg (by simp)] at hal
            rw [hal] at hl
            obtain ⟨rfl, rfl⟩ := hbad2 (by rw [hst, if_pos rfl, if_neg (by rw [← vL]; simp)])
            clear hok hst hbad2 hfj
            cbv
            repeat' first | with_reducible rfl | (simp only [vr0]; cbv) | (simp only [k2]; cbv) | (simp only [k1]; cbv) | (simp only [e8]; cbv) | with_reducible refine And.intro ?_ ?_ | ((with_reducible intro hcc); first | (cases hcc; done) | skip) | ((with_reducible show goC _ _ _ _ _ _ _ _); cbv) | ((with_reducible show goOps _ _ _ _ _); cbv) | ((with_reducible show goD _ _ _ _ _ _); cbv) | ((with_reducible show okWr _ _ = _); rfl) | ((with_reducible refine callK_eq hA hP ?_ ?_ ?_ (Wks.refl _) (fun _ _ => h252)); exact rfl; exact rfl; cbv) | ((with_reducible refine callK_eq hA hP ?_ ?_ ?_ (Wks.refl _) (fun _ _ => h251)); exact rfl; exact rfl; cbv) | ((with_reducible show A.call _ _ _ _ _ 187 _ _ _); have hc := hl; refine callK_prg hA hP [4, 2, 1] (by rfl) (by exact ⟨rfl, rfl, rfl, trivial⟩) (Wks.refl _) ?_ (fun _ _ => hc) hc.side; cbv) | (with_reducible refine hA.fin_tup _ _ _ ?_) | ((with_reducible show A.call _ _ _ _ false _ _ _ _); refine callK_no hA (.bool false) ?_; cbv) | ((with_reducible refine hA.len x _ _ _ _ fun z hz hb => ?_); (have e6 := hze.trans hz.symm); subst e6; cbv) | ((with_reducible refine hA.row x i _ ⟨hi, fun row hrow => ?_⟩); rw [q1] at hrow; subst hrow; cbv) | ((with_reducible refine hA.st [_, _, _, _, _, _, _] _ _ _ _ ⟨?_, fun ds hds => ?_⟩); rotate_left; (have hds : ds = [.int K, .int T, .int M, .e (.sl xe), .e (.sl ye), .int L, .int R] := hds); subst hds; cbv) | ((with_reducible refine hA.fin_pl _ _ _ ?_); cbv) | ((with_reducible refine hA.len _ _ _ _ _ fun z hz hb => ?_); cbv) | ((with_reducible refine hA.off _ _ _ _ fun b hb => ?_); cbv) | ((with_reducible refine hA.plus _ _ _ fun b hb => ?_); cbv) | ((with_reducible refine hA.rep _ _ _ fun ds m hds hm => ?_); cbv) | ((with_reducible refine hA.st _ _ _ _ _ ⟨?_, fun ds hds => ?_⟩); rotate_left; cbv) | ((with_reducible refine hA.alt _ _ (Or.inl ?_)); cbv) | ((with_reducible refine hA.sapp _ _ _ ⟨?_, fun sl hsl => ?_⟩); rotate_left; cbv) | ((with_reducible refine hA.gb0 true _ ?_); cbv) | ((with_reducible refine hA.gb0 false _ ?_); cbv) | ((with_reducible refine hA.gb _ _ fun vb hvb => ?_); cbv) | (simp only [hA.natLit, hA.natOf, hA.natCast]; cbv)
            all_goals try simp only [hA.add, hA.sub, hA.mul, hA.neg, hA.div, hA.mod, hA.mn, hA.mx, hA.eq, hA.lt, hA.le, hA.nat, hA.R, hA.lep, hA.ltp, hA.seq, inR, n_cast, Int.ofNat_eq_natCast, Option.getD_some, Option.getD_none] at *
            all_goals first | omega | exact hf' | rfl | trivial | (simp; done) | (trace_state; fail)
          · rw [if_pos rfl] at hal
            have vL := vL.1 rfl
            have hal0 := (hfj (i - 1) (by omega) (by omega)).1
            have hok2 := hok al (by rw [hst, if_pos rfl, if_pos vL, hal]) (by omega)
            clear hok hst hbad2 hfj
            cbv
            repeat' first | with_reducible rfl | (simp only [vr0]; cbv) | (simp only [k2]; cbv) | (simp only [k1]; cbv) | (simp only [e8]; cbv) | with_reducible refine And.intro ?_ ?_ | ((with_reducible intro hcc); first | (cases hcc; done) | skip) | ((with_reducible show goC _ _ _ _ _ _ _ _); cbv) | ((with_reducible show goOps _ _ _ _ _); cbv) | ((with_reducible show goD _ _ _ _ _ _); cbv) | ((with_reducible show okWr _ _ = _); rfl) | ((with_reducible refine callK_eq hA hP ?_ ?_ ?_ (Wks.refl _) (fun _ _ => h252)); exact rfl; exact rfl; cbv) | ((with_reducible refine callK_eq hA hP ?_ ?_ ?_ (Wks.refl _) (fun _ _ => h251)); exact rfl; exact rfl; cbv) | ((with_reducible show A.call _ _ _ _ _ 187 _ _ _); have hc := hl; refine callK_prg hA hP [4, 2, 1] (by rfl) (by exact ⟨rfl, rfl, rfl, trivial⟩) (Wks.refl _) ?_ (fun _ _ => hc) hc.side; cbv) | ((with_reducible show A.call _ _ _ _ false _ _ _ _); refine callK_no hA (.bool false) ?_; cbv) | ((with_reducible refine hA.len x _ _ _ _ fun z hz hb => ?_); (have e6 := hze.trans hz.symm); subst e6; cbv) | ((with_reducible refine hA.row x i _ ⟨hi, fun row hrow => ?_⟩); rw [q1] at hrow; subst hrow; cbv) | ((with_reducible refine hA.st [_, _, _, _, _, _, _] _ _ _ _ ⟨?_, fun ds hds => ?_⟩); rotate_left; (have hds : ds = [.int K, .int T, .int M, .e (.sl xe), .e (.sl ye), .int L, .int R] := hds); subst hds; cbv) | ((with_reducible refine hA.fin_pl _ _ _ ?_); cbv) | ((with_reducible refine hA.len _ _ _ _ _ fun z hz hb => ?_); cbv) | ((with_reducible refine hA.off _ _ _ _ fun b hb => ?_); cbv) | ((with_reducible refine hA.plus _ _ _ fun b hb => ?_); cbv) | ((with_reducible refine hA.rep _ _ _ fun ds m hds hm => ?_); cbv) | ((with_reducible refine hA.st _ _ _ _ _ ⟨?_, fun ds hds => ?_⟩); rotate_left; cbv) | ((with_reducible refine hA.alt _ _ (Or.inl ?_)); cbv) | ((with_reducible refine hA.sapp _ _ _ ⟨?_, fun sl hsl => ?_⟩); rotate_left; cbv) | ((with_reducible refine hA.gb0 true _ ?_); cbv) | ((with_reducible refine hA.gb0 false _ ?_); cbv) | ((with_reducible refine hA.gb _ _ fun vb hvb => ?_); cbv) | (simp only [hA.natLit, hA.natOf, hA.natCast]; cbv)
            all_goals try simp only [hA.add, hA.sub, hA.mul, hA.neg, hA.div, hA.mod, hA.mn, hA.mx, hA.eq, hA.lt, hA.le, hA.nat, hA.R, hA.lep, hA.ltp, hA.seq, inR, n_cast, Int.ofNat_eq_natCast, Option.getD_some, Option.getD_none] at *
            all_goals first
              | omega
              | exact hf'
              | trivial
              | exact hok2 _ _ _ _ (hset hds hb) ⟨rfl, rfl, rfl, rfl, rfl, rfl, rfl, trivial⟩
              | (rw [hl1]; omega)
              | (simp; done)
              | (trace_state; fail)
      · have vr0 : A.eq R 0 = false := by rw [hA.eq]; exact decide_eq_false hR0
        obtain ⟨rfl, rfl⟩ := hbad2 (by rw [hst, if_neg hR0])
        clear hok hst hbad2 hfj
        cbv
        repeat' first | with_reducible rfl | (simp only [vr0]; cbv) | (simp only [k2]; cbv) | (simp only [k1]; cbv) | (simp only [e8]; cbv) | with_reducible refine And.intro ?_ ?_ | ((with_reducible intro hcc); first | (cases hcc; done) | skip) | ((with_reducible show goC _ _ _ _ _ _ _ _); cbv) | ((with_reducible show goOps _ _ _ _ _); cbv) | ((with_reducible show goD _ _ _ _ _ _); cbv) | ((with_reducible show okWr _ _ = _); rfl) | ((with_reducible refine callK_eq hA hP ?_ ?_ ?_ (Wks.refl _) (fun _ _ => h252)); exact rfl; exact rfl; cbv) | ((with_reducible refine callK_eq hA hP ?_ ?_ ?_ (Wks.refl _) (fun _ _ => h251)); exact rfl; exact rfl; cbv) | (with_reducible refine hA.fin_tup _ _ _ ?_) | ((with_reducible show A.call _ _ _ _ false _ _ _ _); refine callK_no hA (.bool false) ?_; cbv) | ((with_reducible refine hA.len x _ _ _ _ fun z hz hb => ?_); (have e6 := hze.trans hz.symm); subst e6; cbv) | ((with_reducible refine hA.row x i _ ⟨hi, fun row hrow => ?_⟩); rw [q1] at hrow; subst hrow; cbv) | ((with_reducible refine hA.st [_, _, _, _, _, _, _] _ _ _ _ ⟨?_, fun ds hds => ?_⟩); rotate_left; (have hds : ds = [.int K, .int T, .int M, .e (.sl xe), .e (.sl ye), .int L, .int R] := hds); subst hds; cbv) | ((with_reducible refine hA.fin_pl _ _ _ ?_); cbv) | ((with_reducible refine hA.len _ _ _ _ _ fun z hz hb => ?_); cbv) | ((with_reducible refine hA.off _ _ _ _ fun b hb => ?_); cbv) | ((with_reducible refine hA.plus _ _ _ fun b hb => ?_); cbv) | ((with_reducible refine hA.rep _ _ _ fun ds m hds hm => ?_); cbv) | ((with_reducible refine hA.st _ _ _ _ _ ⟨?_, fun ds hds => ?_⟩); rotate_left; cbv) | ((with_reducible refine hA.alt _ _ (Or.inl ?_)); cbv) | ((with_reducible refine hA.sapp _ _ _ ⟨?_, fun sl hsl => ?_⟩); rotate_left; cbv) | ((with_reducible refine hA.gb0 true _ ?_); cbv) | ((with_reducible refine hA.gb0 false _ ?_); cbv) | ((with_reducible refine hA.gb _ _ fun vb hvb => ?_); cbv) | (simp only [hA.natLit, hA.natOf, hA.natCast]; cbv)
        all_goals try simp only [hA.add, hA.sub, hA.mul, hA.neg, hA.div, hA.mod, hA.mn, hA.mx, hA.eq, hA.lt, hA.le, hA.nat, hA.R, hA.lep, hA.ltp, hA.seq, inR, n_cast, Int.ofNat_eq_natCast, Option.getD_some, Option.getD_none] at *
        all_goals first | omega | exact hf' | rfl | trivial | (simp; done) | (trace_state; fail)
    · rw [if_pos rfl] at hst
      obtain ⟨okr, hokr⟩ : ∃ b, b = decide (1 ≤ i ∧ R = i - 1) := ⟨_, rfl⟩
      obtain ⟨ar, har⟩ : ∃ v, v = if okr then f (i - 1) else i := ⟨_, rfl⟩
      have hr := ok187 R i ar (f (i - 1)) n c1 ds1 hd1 i2.symm (by omega) (by omega) okr hokr (fun h => by
        have h' : 1 ≤ i ∧ R = i - 1 := by rw [hokr] at h; exact of_decide_eq_true h
        rw [h'.2]; exact (hfj _ (by omega) (by omega)).2) har
      have vR : okr = true ↔ (1 ≤ i ∧ R = i - 1) := by rw [hokr]; exact decide_eq_true_iff
      clear hokr
      cases okr
      · rw [if_neg (by simp)] at har
        rw [har] at hr
        obtain ⟨rfl, rfl⟩ := hbad2 (by rw [hst, if_neg (by rw [← vR]; simp)])
        clear hok hst hbad2 hfj
        cbv
        repeat' first | with_reducible rfl | (simp only [k2]; cbv) | (simp only [k1]; cbv) | (simp only [e8]; cbv) | with_reducible refine And.intro ?_ ?_ | ((with_reducible intro hcc); first | (cases hcc; done) | skip) | ((with_reducible show goC _ _ _ _ _ _ _ _); cbv) | ((with_reducible show goOps _ _ _ _ _); cbv) | ((with_reducible show goD _ _ _ _ _ _); cbv) | ((with_reducible show okWr _ _ = _); rfl) | ((with_reducible refine callK_eq hA hP ?_ ?_ ?_ (Wks.refl _) (fun _ _ => h252)); exact rfl; exact rfl; cbv) | ((with_reducible refine callK_eq hA hP ?_ ?_ ?_ (Wks.refl _) (fun _ _ => h251)); exact rfl; exact rfl; cbv) | ((with_reducible show A.call _ _ _ _ _ 187 _ _ _); have hc := hr; refine callK_prg hA hP [4, 2, 1] (by rfl) (by exact ⟨rfl, rfl, rfl, trivial⟩) (Wks.refl _) ?_ (fun _ _ => hc) hc.side; cbv) | (with_reducible refine hA.fin_tup _ _ _ ?_) | ((with_reducible show A.call _ _ _ _ false _ _ _ _); refine callK_no hA (.bool false) ?_; cbv) | ((with_reducible refine hA.len x _ _ _ _ fun z hz hb => ?_); (have e6 := hze.trans hz.symm); subst e6; cbv) | ((with_reducible refine hA.row x i _ ⟨hi, fun row hrow => ?_⟩); rw [q1] at hrow; subst hrow; cbv) | ((with_reducible refine hA.st [_, _, _, _, _, _, _] _ _ _ _ ⟨?_, fun ds hds => ?_⟩); rotate_left; (have hds : ds = [.int K, .int T, .int M, .e (.sl xe), .e (.sl ye), .int L, .int R] := hds); subst hds; cbv) | ((with_reducible refine hA.fin_pl _ _ _ ?_); cbv) | ((with_reducible refine hA.len _ _ _ _ _ fun z hz hb => ?_); cbv) | ((with_reducible refine hA.off _ _ _ _ fun b hb => ?_); cbv) | ((with_reducible refine hA.plus _ _ _ fun b hb => ?_); cbv) | ((with_reducible refine hA.rep _ _ _ fun ds m hds hm => ?_); cbv) | ((with_reducible refine hA.st _ _ _ _ _ ⟨?_, fun ds hds => ?_⟩); rotate_left; cbv) | ((with_reducible refine hA.alt _ _ (Or.inl ?_)); cbv) | ((with_reducible refine hA.sapp _ _ _ ⟨?_, fun sl hsl => ?_⟩); rotate_left; cbv) | ((with_reducible refine hA.gb0 true _ ?_); cbv) | ((with_reducible refine hA.gb0 false _ ?_); cbv) | ((with_reducible refine hA.gb _ _ fun vb hvb => ?_); cbv) | (simp only [hA.natLit, hA.natOf, hA.natCast]; cbv)
        all_goals try simp only [hA.add, hA.sub, hA.mul, hA.neg, hA.div, hA.mod, hA.mn, hA.mx, hA.eq, hA.lt, hA.le, hA.nat, hA.R, hA.lep, hA.ltp, hA.seq, inR, n_cast, Int.ofNat_eq_natCast, Option.getD_some, Option.getD_none] at *
        all_goals first | omega | exact hf' | rfl | trivial | (simp; done) | (trace_state; fail)
      · rw [if_pos rfl] at har
        have vR := vR.1 rfl
        have har0 := (hfj (i - 1) (by omega) (by omega)).1
        rw [if_pos vR, ← har] at hst
        rw [← har] at har0
        cases bL
        · by_cases hL0 : L = 0
          · have vl0 : A.eq L 0 = true := by rw [hA.eq]; exact decide_eq_true hL0
            have hok2 := hok ar (by rw [hst, if_neg (by simp), if_pos hL0]) (by omega)
            clear hok hst hbad2 hfj
            cbv
            repeat' first | with_reducible rfl | (simp only [vl0]; cbv) | (simp only [k2]; cbv) | (simp only [k1]; cbv) | (simp only [e8]; cbv) | with_reducible refine And.intro ?_ ?_ | ((with_reducible intro hcc); first | (cases hcc; done) | skip) | ((with_reducible show goC _ _ _ _ _ _ _ _); cbv) | ((with_reducible show goOps _ _ _ _ _); cbv) | ((with_reducible show goD _ _ _ _ _ _); cbv) | ((with_reducible show okWr _ _ = _); rfl) | ((with_reducible refine callK_eq hA hP ?_ ?_ ?_ (Wks.refl _) (fun _ _ => h252)); exact rfl; exact rfl; cbv) | ((with_reducible refine callK_eq hA hP ?_ ?_ ?_ (Wks.refl _) (fun _ _ => h251)); exact rfl; exact rfl; cbv) | ((with_reducible show A.call _ _ _ _ _ 187 _ _ _); have hc := hr; refine callK_prg hA hP [4, 2, 1] (by rfl) (by exact ⟨rfl, rfl, rfl, trivial⟩) (Wks.refl _) ?_ (fun _ _ => hc) hc.side; cbv) | ((with_reducible show A.call _ _ _ _ false _ _ _ _); refine callK_no hA (.bool false) ?_; cbv) | ((with_reducible refine hA.len x _ _ _ _ fun z hz hb => ?_); (have e6 := hze.trans hz.symm); subst e6; cbv) | ((with_reducible refine hA.row x i _ ⟨hi, fun row hrow => ?_⟩); rw [q1] at hrow; subst hrow; cbv) | ((with_reducible refine hA.st [_, _, _, _, _, _, _] _ _ _ _ ⟨?_, fun ds hds => ?_⟩); rotate_left; (have hds : ds = [.int K, .int T, .int M, .e (.sl xe), .e (.sl ye), .int L, .int R] := hds); subst hds; cbv) | ((with_reducible refine hA.fin_pl _ _ _ ?_); cbv) | ((with_reducible refine hA.len _ _ _ _ _ fun z hz hb => ?_); cbv) | ((with_reducible refine hA.off _ _ _ _ fun b hb => ?_); cbv) | ((with_reducible refine hA.plus _ _ _ fun b hb => ?_); cbv) | ((with_reducible refine hA.rep _ _ _ fun ds m hds hm => ?_); cbv) | ((with_reducible refine hA.st _ _ _ _ _ ⟨?_, fun ds hds => ?_⟩); rotate_left; cbv) | ((with_reducible refine hA.alt _ _ (Or.inl ?_)); cbv) | ((with_reducible refine hA.sapp _ _ _ ⟨?_, fun sl hsl => ?_⟩); rotate_left; cbv) | ((with_reducible refine hA.gb0 true _ ?_); cbv) | ((with_reducible refine hA.gb0 false _ ?_); cbv) | ((with_reducible refine hA.gb _ _ fun vb hvb => ?_); cbv) | (simp only [hA.natLit, hA.natOf, hA.natCast]; cbv)
            all_goals try simp only [hA.add, hA.sub, hA.mul, hA.neg, hA.div, hA.mod, hA.mn, hA.mx, hA.eq, hA.lt, hA.le, hA.nat, hA.R, hA.lep, hA.ltp, hA.seq, inR, n_cast, Int.ofNat_eq_natCast, Option.getD_some, Option.getD_none] at *
            all_goals first
              | omega
              | exact hf'
              | trivial
              | exact hok2 _ _ _ _ (hset hds hb) ⟨rfl, rfl, rfl, rfl, rfl, rfl, rfl, trivial⟩
              | (rw [hl1]; omega)
              | (simp; done)
              | (trace_state; fail)
          · have vl0 : A.eq L 0 = false := by rw [hA.eq]; exact decide_eq_false hL0
            obtain ⟨rfl, rfl⟩ := hbad2 (by rw [hst, if_neg (by simp), if_neg hL0])
            clear hok hst hbad2 hfj
            cbv
            repeat' first | with_reducible rfl | (simp only [vl0]; cbv) | (simp only [k2]; cbv) | (simp only [k1]; cbv) | (simp only [e8]; cbv) | with_reducible refine And.intro ?_ ?_ | ((with_reducible intro hcc); first | (cases hcc; done) | skip) | ((with_reducible show goC _ _ _ _ _ _ _ _); cbv) | ((with_reducible show goOps _ _ _ _ _); cbv) | ((with_reducible show goD _ _ _ _ _ _); cbv) | ((with_reducible show okWr _ _ = _); rfl) | ((with_reducible refine callK_eq hA hP ?_ ?_ ?_ (Wks.refl _) (fun _ _ => h252)); exact rfl; exact rfl; cbv) | ((with_reducible refine callK_eq hA hP ?_ ?_ ?_ (Wks.refl _) (fun _ _ => h251)); exact rfl; exact rfl; cbv) | ((with_reducible show A.call _ _ _ _ _ 187 _ _ _); have hc := hr; refine callK_prg hA hP [4, 2, 1] (by rfl) (by exact ⟨rfl, rfl, rfl, trivial⟩) (Wks.refl _) ?_ (fun _ _ => hc) hc.side; cbv) | (with_reducible refine hA.fin_tup _ _ _ ?_) | ((with_reducible show A.call _ _ _ _ false _ _ _ _); refine callK_no hA (.bool false) ?_; cbv) | ((with_reducible refine hA.len x _ _ _ _ fun z hz hb => ?_); (have e6 := hze.trans hz.symm); subst e6; cbv) | ((with_reducible refine hA.row x i _ ⟨hi, fun row hrow => ?_⟩); rw [q1] at hrow; subst hrow; cbv) | ((with_reducible refine hA.st [_, _, _, _, _, _, _] _ _ _ _ ⟨?_, fun ds hds => ?_⟩); rotate_left; (have hds : ds = [.int K, .int T, .int M, .e (.sl xe), .e (.sl ye), .int L, .int R] := hds); subst hds; cbv) | ((with_reducible refine hA.fin_pl _ _ _ ?_); cbv) | ((with_reducible refine hA.len _ _ _ _ _ fun z hz hb => ?_); cbv) | ((with_reducible refine hA.off _ _ _ _ fun b hb => ?_); cbv) | ((with_reducible refine hA.plus _ _ _ fun b hb => ?_); cbv) | ((with_reducible refine hA.rep _ _ _ fun ds m hds hm => ?_); cbv) | ((with_reducible refine hA.st _ _ _ _ _ ⟨?_, fun ds hds => ?_⟩); rotate_left; cbv) | ((with_reducible refine hA.alt _ _ (Or.inl ?_)); cbv) | ((with_reducible refine hA.sapp _ _ _ ⟨?_, fun sl hsl => ?_⟩); rotate_left; cbv) | ((with_reducible refine hA.gb0 true _ ?_); cbv) | ((with_reducible refine hA.gb0 false _ ?_); cbv) | ((with_reducible refine hA.gb _ _ fun vb hvb => ?_); cbv) | (simp only [hA.natLit, hA.natOf, hA.natCast]; cbv)
            all_goals try simp only [hA.add, hA.sub, hA.mul, hA.neg, hA.div, hA.mod, hA.mn, hA.mx, hA.eq, hA.lt, hA.le, hA.nat, hA.R, hA.lep, hA.ltp, hA.seq, inR, n_cast, Int.ofNat_eq_natCast, Option.getD_some, Option.getD_none] at *
            all_goals first | omega | exact hf' | rfl | trivial | (simp; done) | (trace_state; fail)
        · obtain ⟨okl, hokl⟩ : ∃ b, b = decide (1 ≤ ar ∧ L = ar - 1) := ⟨_, rfl⟩
          obtain ⟨al, hal⟩ : ∃ v, v = if okl then f (ar - 1) else ar := ⟨_, rfl⟩
          have hl := ok187 L ar al (f (ar - 1)) n c1 ds1 hd1 i2.symm (by omega) (by omega) okl hokl (fun h => by
            have h' : 1 ≤ ar ∧ L = ar - 1 := by rw [hokl] at h; exact of_decide_eq_true h
            rw [h'.2]; exact (hfj _ (by omega) (by omega)).2) hal
          have vL : okl = true ↔ (1 ≤ ar ∧ L = ar - 1) := by rw [hokl]; exact decide_eq_true_iff
          clear hokl
          cases okl
          · rw [if_neg (by simp)] at hal
            rw [hal] at hl
            obtain ⟨rfl, rfl⟩ := hbad2 (by rw [hst, if_pos rfl, if_neg (by rw [← vL]; simp)])
            clear hok hst hbad2 hfj
            cbv
            repeat' first | with_reducible rfl | (simp only [k2]; cbv) | (simp only [k1]; cbv) | (simp only [e8]; cbv) | with_reducible refine And.intro ?_ ?_ | ((with_reducible intro hcc); first | (cases hcc; done) | skip) | ((with_reducible show goC _ _ _ _ _ _ _ _); cbv) | ((with_reducible show goOps _ _ _ _ _); cbv) | ((with_reducible show goD _ _ _ _ _ _); cbv) | ((with_reducible show okWr _ _ = _); rfl) | ((with_reducible refine callK_eq hA hP ?_ ?_ ?_ (Wks.refl _) (fun _ _ => h252)); exact rfl; exact rfl; cbv) | ((with_reducible refine callK_eq hA hP ?_ ?_ ?_ (Wks.refl _) (fun _ _ => h251)); exact rfl; exact rfl; cbv) | ((with_reducible show A.call _ _ _ _ _ 187 _ _ _); have hc := hr; refine callK_prg hA hP [4, 2, 1] (by rfl) (by exact ⟨rfl, rfl, rfl, trivial⟩) (Wks.refl _) ?_ (fun _ _ => hc) hc.side; cbv) | ((with_reducible show A.call _ _ _ _ _ 187 _ _ _); have hc := hl; refine callK_prg hA hP [4, 2, 1] (by rfl) (by exact ⟨rfl, rfl, rfl, trivial⟩) (Wks.refl _) ?_ (fun _ _ => hc) hc.side; cbv) | (with_reducible refine hA.fin_tup _ _ _ ?_) | ((with_reducible show A.call _ _ _ _ false _ _ _ _); refine callK_no hA (.bool false) ?_; cbv) | ((with_reducible refine hA.len x _ _ _ _ fun z hz hb => ?_); (have e6 := hze.trans hz.symm); subst e6; cbv) | ((with_reducible refine hA.row x i _ ⟨hi, fun row hrow => ?_⟩); rw [q1] at hrow; subst hrow; cbv) | ((with_reducible refine hA.st [_, _, _, _, _, _, _] _ _ _ _ ⟨?_, fun ds hds => ?_⟩); rotate_left; (have hds : ds = [.int K, .int T, .int M, .e (.sl xe), .e (.sl ye), .int L, .int R] := hds); subst hds; cbv) | ((with_reducible refine hA.fin_pl _ _ _ ?_); cbv) | ((with_reducible refine hA.len _ _ _ _ _ fun z hz hb => ?_); cbv) | ((with_reducible refine hA.off _ _ _ _ fun b hb => ?_); cbv) | ((with_reducible refine hA.plus _ _ _ fun b hb => ?_); cbv) | ((with_reducible refine hA.rep _ _ _ fun ds m hds hm => ?_); cbv) | ((with_reducible refine hA.st _ _ _ _ _ ⟨?_, fun ds hds => ?_⟩); rotate_left; cbv) | ((with_reducible refine hA.alt _ _ (Or.inl ?_)); cbv) | ((with_reducible refine hA.sapp _ _ _ ⟨?_, fun sl hsl => ?_⟩); rotate_left; cbv) | ((with_reducible refine hA.gb0 true _ ?_); cbv) | ((with_reducible refine hA.gb0 false _ ?_); cbv) | ((with_reducible refine hA.gb _ _ fun vb hvb => ?_); cbv) | (simp only [hA.natLit, hA.natOf, hA.natCast]; cbv)
            all_goals try simp only [hA.add, hA.sub, hA.mul, hA.neg, hA.div, hA.mod, hA.mn, hA.mx, hA.eq, hA.lt, hA.le, hA.nat, hA.R, hA.lep, hA.ltp, hA.seq, inR, n_cast, Int.ofNat_eq_natCast, Option.getD_some, Option.getD_none] at *
            all_goals first | omega | exact hf' | rfl | trivial | (simp; done) | (trace_state; fail)
          · rw [if_pos rfl] at hal
            have vL := vL.1 rfl
            have hal0 := (hfj (ar - 1) (by omega) (by omega)).1
            have hok2 := hok al (by rw [hst, if_pos rfl, if_pos vL, hal]) (by omega)
            clear hok hst hbad2 hfj
            cbv
            repeat' first | with_reducible rfl | (simp only [k2]; cbv) | (simp only [k1]; cbv) | (simp only [e8]; cbv) | with_reducible refine And.intro ?_ ?_ | ((with_reducible intro hcc); first | (cases hcc; done) | skip) | ((with_reducible show goC _ _ _ _ _ _ _ _); cbv) | ((with_reducible show goOps _ _ _ _ _); cbv) | ((with_reducible show goD _ _ _ _ _ _); cbv) | ((with_reducible show okWr _ _ = _); rfl) | ((with_reducible refine callK_eq hA hP ?_ ?_ ?_ (Wks.refl _) (fun _ _ => h252)); exact rfl; exact rfl; cbv) | ((with_reducible refine callK_eq hA hP ?_ ?_ ?_ (Wks.refl _) (fun _ _ => h251)); exact rfl; exact rfl; cbv) | ((with_reducible show A.call _ _ _ _ _ 187 _ _ _); have hc := hr; refine callK_prg hA hP [4, 2, 1] (by rfl) (by exact ⟨rfl, rfl, rfl, trivial⟩) (Wks.refl _) ?_ (fun _ _ => hc) hc.side; cbv) | ((with_reducible show A.call _ _ _ _ _ 187 _ _ _); have hc := hl; refine callK_prg hA hP [4, 2, 1] (by rfl) (by exact ⟨rfl, rfl, rfl, trivial⟩) (Wks.refl _) ?_ (fun _ _ => hc) hc.side; cbv) | ((with_reducible show A.call _ _ _ _ false _ _ _ _); refine callK_no hA (.bool false) ?_; cbv) | ((with_reducible refine hA.len x _ _ _ _ fun z hz hb => ?_); (have e6 := hze.trans hz.symm); subst e6; cbv) | ((with_reducible refine hA.row x i _ ⟨hi, fun row hrow => ?_⟩); rw [q1] at hrow; subst hrow; cbv) | ((with_reducible refine hA.st [_, _, _, _, _, _, _] _ _ _ _ ⟨?_, fun ds hds => ?_⟩); rotate_left; (have hds : ds = [.int K, .int T, .int M, .e (.sl xe), .e (.sl ye), .int L, .int R] := hds); subst hds; cbv) | ((with_reducible refine hA.fin_pl _ _ _ ?_); cbv) | ((with_reducible refine hA.len _ _ _ _ _ fun z hz hb => ?_); cbv) | ((with_reducible refine hA.off _ _ _ _ fun b hb => ?_); cbv) | ((with_reducible refine hA.plus _ _ _ fun b hb => ?_); cbv) | ((with_reducible refine hA.rep _ _ _ fun ds m hds hm => ?_); cbv) | ((with_reducible refine hA.st _ _ _ _ _ ⟨?_, fun ds hds => ?_⟩); rotate_left; cbv) | ((with_reducible refine hA.alt _ _ (Or.inl ?_)); cbv) | ((with_reducible refine hA.sapp _ _ _ ⟨?_, fun sl hsl => ?_⟩); rotate_left; cbv) | ((with_reducible refine hA.gb0 true _ ?_); cbv) | ((with_reducible refine hA.gb0 false _ ?_); cbv) | ((with_reducible refine hA.gb _ _ fun vb hvb => ?_); cbv) | (simp only [hA.natLit, hA.natOf, hA.natCast]; cbv)
            all_goals try simp only [hA.add, hA.sub, hA.mul, hA.neg, hA.div, hA.mod, hA.mn, hA.mx, hA.eq, hA.lt, hA.le, hA.nat, hA.R, hA.lep, hA.ltp, hA.seq, inR, n_cast, Int.ofNat_eq_natCast, Option.getD_some, Option.getD_none] at *
            all_goals first
              | omega
              | exact hf'
              | trivial
              | exact hok2 _ _ _ _ (hset hds hb) ⟨rfl, rfl, rfl, rfl, rfl, rfl, rfl, trivial⟩
              | (rw [hl1]; omega)
              | (simp; done)
              | (trace_state; fail))
end Go.Proofs.Ytfplalbognalkaa.Ab
/- Plans: valid or not, by both. -/
namespace Go.Proofs.Ytfplalbognalkaa.Ab
open Go
theorem dbOk_cols {ts : List Tb} (h : dbOk ts = true) (t : Int) (h0 : 0 ≤ t) (h1 : t < ts.length) : 1 ≤ colsOf ts t ∧ colsOf ts t ≤ 16 := by
  simp only [dbOk, Bool.and_eq_true, List.all_eq_true] at h
  have := h.2.1 t.toNat (by simp; omega)
  simp only [good, Bool.and_eq_true, decide_eq_true_eq] at this
  unfold colsOf
  grind
theorem ndS_lo {d : Pd} {cols : Int → Int} {env l r : Int} (hl : 0 ≤ l) (hr : 0 ≤ r) (hT : d.K = 2 → 0 ≤ cols d.T) : -1 ≤ ndS d cols env l r := by
  unfold ndS
  simp only
  repeat' split
  all_goals first | omega | (have := hT (by assumption); omega)
theorem wS_lo {ns : List Pd} {nt : Int} {cols : Int → Int} (hc : ∀ t, 0 ≤ t → t < nt → 0 ≤ cols t) : ∀ (n : Nat) (i env : Int), -1 ≤ wS ns nt cols n i env
  | 0, i, env => by simp [wS]
  | n + 1, i, env => by
    have key : ∀ (d : Pd) (u : Bool) (l r v : Int), u = usedS d nt → (v = if u = false then -1 else if l < 0 then -1 else if r < 0 then -1 else ndS d cols env l r) → -1 ≤ v := fun d u l r v hu e => by
      subst e
      split
      · omega
      · rename_i h1
        split
        · omega
        · split
          · omega
          · refine ndS_lo (by omega) (by omega) fun h => ?_
            have h2 : usedS d nt = true := by rw [← hu]; simpa using h1
            simp only [usedS, h] at h2
            simp at h2
            exact hc _ (by omega) (by omega)
    simp only [wS]
    exact key _ _ _ _ _ rfl rfl
theorem cT_in {ts : List Tb} (h : dbOk ts = true) : ∀ t : Int, 0 ≤ t → t < ts.length → 0 ≤ colsOf ts t ∧ colsOf ts t ≤ 1000 := fun t h0 h1 => by
  have := dbOk_cols h t h0 h1
  omega
set_option maxRecDepth 100000 in
set_option maxHeartbeats 4000000 in
theorem ok82 (ns : List Pd) (x : List (List E)) (hx : x = ns.map pdr) (hlen : ∀ d ∈ ns, d.Ex.length ≤ 1048576 ∧ d.Exs.length ≤ 1048576 ∧ ∀ e ∈ d.Exs, e.length ≤ 1048576) (ts : List Tb) (xt : List (List E)) (hxt : xt = ts.map tbr) (hct : ∀ t : Int, 0 ≤ t → t < ts.length → 0 ≤ colsOf ts t ∧ colsOf ts t ≤ 1000) (hin : InP ns) :
    ∀ (n : Nat) (i env : Int), 0 ≤ i → i < n → i < x.length → 0 ≤ env → env ≤ 200 → Plain Try.prog 82 [.agg [.e (.sl x)], .agg [.e (.sl xt)], .int i, .int env] (.int (wS ns ts.length (colsOf ts) n i env)) := by
  intro n
  induction n with
  | zero => intro i env h1 h2; omega
  | succ n ih =>
    intro i env h1 h2 h3 he1 he2
    have hi : (0 : Int) ≤ i ∧ i < x.length := ⟨h1, h3⟩
    have hxn : x.length = ns.length := by rw [hx]; simp
    obtain ⟨K, T, M, Ex, Exs, L, R, xe, ye, q0, qm, hxe, hye, q1⟩ := pd_at hx hi
    obtain ⟨hK, hKL, hKR⟩ := hin i h1 (by omega)
    obtain ⟨z1, z2, z3⟩ := hlen _ qm
    rw [q0] at hK hKL hKR
    simp only at hK hKL hKR z1 z2 z3
    have hlo : ∀ j e, -1 ≤ wS ns ts.length (colsOf ts) n j e := fun j e => wS_lo (fun t a b => (hct t a b).1) _ _ _
    obtain ⟨l, hl⟩ : ∃ l, l = wS ns ts.length (colsOf ts) n L env := ⟨_, rfl⟩
    obtain ⟨g, hg⟩ : ∃ g : Int → Int, g = wS ns ts.length (colsOf ts) n R := ⟨_, rfl⟩
    have hl1 : hasL K = true → Plain Try.prog 82 [.agg [.e (.sl x)], .agg [.e (.sl xt)], .int L, .int env] (.int l) := fun h => by
      have := hKL h
      rw [hl]; exact ih L env this.1 (by omega) (by omega) he1 he2
    have hl2 : -1 ≤ l ∧ l ≤ 200 ∧ (0 ≤ l → env + l ≤ 200) := by
      have a := hlo L env
      rw [← hl] at a
      by_cases h : 0 ≤ l
      · have := wS_rng (hl ▸ h)
        rw [← hl] at this
        exact ⟨a, by omega, fun _ => this⟩
      · exact ⟨a, by omega, fun q => absurd q h⟩
    have hr1 : ∀ e, hasR K = true → 0 ≤ e → e ≤ 200 → Plain Try.prog 82 [.agg [.e (.sl x)], .agg [.e (.sl xt)], .int R, .int e] (.int (g e)) := fun e h a b => by
      have := hKR h
      rw [hg]; exact ih R e this.1 (by omega) (by omega) a b
    have hr2 : ∀ e, 0 ≤ e → -1 ≤ g e ∧ g e ≤ 200 := fun e h0 => by
      have a := hlo R e
      rw [← hg] at a
      by_cases h : 0 ≤ g e
      · have := wS_rng (hg ▸ h)
        rw [← hg] at this
        exact ⟨a, by omega⟩
      · exact ⟨a, by omega⟩
    simp only [wS]
    rw [q0, ← hg, ← hl]
    simp only
    have b1 : xe.length ≤ 1048576 := by rw [hxe, List.length_map]; exact z1
    have b2 : ye.length ≤ 1048576 := by rw [hye, List.length_map]; exact z2
    have e2 := hr2 env he1
    clear ih hlo hl hg hin hlen q0 qm hKL hKR
    rcases (show K = 1 ∨ K = 2 ∨ K = 3 ∨ K = 4 ∨ K = 5 ∨ K = 6 ∨ K = 7 ∨ K = 8 ∨ K = 9 ∨ K = 10 by omega) with rfl | rfl | rfl | rfl | rfl | rfl | rfl | rfl | rfl | rfl
    · exact ok243_1 T M Ex Exs L R xe ye x xt hxe hye ts hxt b1 b2 z3 i env 0 0 hi q1 ⟨he1, he2⟩ (by omega) (by omega) hct
    · exact ok243_2 T M Ex Exs L R xe ye x xt hxe hye ts hxt b1 b2 z3 i env 0 0 hi q1 ⟨he1, he2⟩ (by omega) (by omega) hct
    · exact ok243_3 T M Ex Exs L R xe ye x xt hxe hye ts hxt b1 b2 z3 i env l 0 hi q1 ⟨he1, he2⟩ (by omega) (by omega) hct (hl1 rfl)
    · exact ok243_4 T M Ex Exs L R xe ye x xt hxe hye ts hxt b1 b2 z3 i env l 0 hi q1 ⟨he1, he2⟩ (by omega) (by omega) hct (hl1 rfl)
    · exact ok243_5 T M Ex Exs L R xe ye x xt hxe hye ts hxt b1 b2 z3 i env l (g env) hi q1 ⟨he1, he2⟩ (by omega) e2 hct (hl1 rfl) (fun _ _ => hr1 env rfl he1 he2)
    · by_cases h : 0 ≤ l
      · exact ok243_6 T M Ex Exs L R xe ye x xt hxe hye ts hxt b1 b2 z3 i env l (g (env + l)) hi q1 ⟨he1, he2⟩ (by omega) (hr2 _ (by omega)) hct (hl1 rfl) (fun _ h => hr1 (env + l) rfl (by omega) (hl2.2.2 h))
      · have := ok243_6 T M Ex Exs L R xe ye x xt hxe hye ts hxt b1 b2 z3 i env l 0 hi q1 ⟨he1, he2⟩ (by omega) (by omega) hct (hl1 rfl) (fun _ h' => absurd h' h)
        rw [if_pos (show l < 0 by omega)] at this
        rw [show (if hasL 6 = true then l else 0) = l from rfl, if_pos (show l < 0 by omega)]
        exact this
    · by_cases h : 0 ≤ l
      · exact ok243_7 T M Ex Exs L R xe ye x xt hxe hye ts hxt b1 b2 z3 i env l (g (env + l)) hi q1 ⟨he1, he2⟩ (by omega) (hr2 _ (by omega)) hct (hl1 rfl) (fun _ h => hr1 (env + l) rfl (by omega) (hl2.2.2 h))
      · have := ok243_7 T M Ex Exs L R xe ye x xt hxe hye ts hxt b1 b2 z3 i env l 0 hi q1 ⟨he1, he2⟩ (by omega) (by omega) hct (hl1 rfl) (fun _ h' => absurd h' h)
        rw [if_pos (show l < 0 by omega)] at this
        rw [show (if hasL 7 = true then l else 0) = l from rfl, if_pos (show l < 0 by omega)]
        exact this
    · by_cases h : 0 ≤ l
      · exact ok243_8 T M Ex Exs L R xe ye x xt hxe hye ts hxt b1 b2 z3 i env l (g (env + l)) hi q1 ⟨he1, he2⟩ (by omega) (hr2 _ (by omega)) hct (hl1 rfl) (fun _ h => hr1 (env + l) rfl (by omega) (hl2.2.2 h))
      · have := ok243_8 T M Ex Exs L R xe ye x xt hxe hye ts hxt b1 b2 z3 i env l 0 hi q1 ⟨he1, he2⟩ (by omega) (by omega) hct (hl1 rfl) (fun _ h' => absurd h' h)
        rw [if_pos (show l < 0 by omega)] at this
        rw [show (if hasL 8 = true then l else 0) = l from rfl, if_pos (show l < 0 by omega)]
        exact this
    · exact ok243_9 T M Ex Exs L R xe ye x xt hxe hye ts hxt b1 b2 z3 i env l 0 hi q1 ⟨he1, he2⟩ (by omega) (by omega) hct (hl1 rfl)
    · exact ok243_10 T M Ex Exs L R xe ye x xt hxe hye ts hxt b1 b2 z3 i env l (g env) hi q1 ⟨he1, he2⟩ (by omega) e2 hct (hl1 rfl) (fun _ _ => hr1 env rfl he1 he2)
/-- The operator of a plan's root. -/
def rootO (ns : List Pd) (ts : List Tb) : Option Ot := if dbOk ts = true ∧ ordOk ns = true then mkO ns ts ns.length ((ns.length : Int) - 1) 0 else none
theorem root_w (ns : List Pd) (ts : List Tb) : (rootO ns ts).map Ot.w = if planW ns ts < 0 then none else some (planW ns ts) := by
  unfold rootO planW
  split
  · rename_i h
    have hn : 1 ≤ ns.length ∧ ns.length ≤ 2000 := by
      have := h.2
      simp only [ordOk, Bool.and_eq_true, decide_eq_true_eq] at this
      exact this.1
    rw [mk_w, w_eq (ord_in h.2) (fun t a b => (cT_in h.1 t a b).1) _ _ _ (by omega) (by omega)]
  · simp
theorem root_sm {ns : List Pd} {ts : List Tb} {o : Ot} (hlen : ∀ d ∈ ns, d.Exs.length ≤ 1048576) (h : rootO ns ts = some o) : o.sm ∧ 0 ≤ o.w ∧ o.w ≤ 200 := by
  unfold rootO at h
  split at h
  · rename_i hb
    have := mk_sm hlen (cT_in hb.1) _ _ _ _ (Int.le_refl 0) h
    exact ⟨this.1, this.2.1, by omega⟩
  · cases h
set_option maxRecDepth 100000 in
set_option maxHeartbeats 4000000 in
theorem ok84 (ns : List Pd) (x : List (List E)) (hx : x = ns.map pdr) (hxl : x.length ≤ 1048576) (hlen : ∀ d ∈ ns, d.Ex.length ≤ 1048576 ∧ d.Exs.length ≤ 1048576 ∧ ∀ e ∈ d.Exs, e.length ≤ 1048576) (ts : List Tb) (xt : List (List E)) (hxt : xt = ts.map tbr) (hsz : cTS ts ≤ 1048576) :
    Plain Try.prog 84 [.agg [.e (.sl x)], .agg [.e (.sl xt)]] (.e (optE (rootO ns ts))) := okOf mixed p84 fun A P hA hP => (by
  have hxn : x.length = ns.length := by rw [hx]; simp
  obtain ⟨ze, hze⟩ : ∃ z : Int, z = x.length := ⟨_, rfl⟩
  obtain ⟨aok, haok⟩ : ∃ b : Bool, b = true ↔ allF ns := by
    by_cases h : allF ns
    · exact ⟨true, by simp [h]⟩
    · exact ⟨false, by simp [h]⟩
  obtain ⟨b, hb0⟩ : ∃ b, b = ordOk ns := ⟨_, rfl⟩
  obtain ⟨xs, hxs⟩ : ∃ xs : List (List E), xs = if aok then ((List.range ns.length).map (fr ns)).map ir else [] := ⟨_, rfl⟩
  have h292 := ok146 ns x hx hxl aok b haok hb0 xs hxs
  have h38 := ok135 ts xt hxt hsz
  obtain ⟨db, hdb⟩ : ∃ b, b = dbOk ts := ⟨_, rfl⟩
  rw [← hdb] at h38
  obtain ⟨res, hres⟩ : ∃ e, e = optE (rootO ns ts) := ⟨_, rfl⟩
  rw [← hres]
  rw [rootO, ← hdb, ← hb0] at hres
  cases b
  · have hr2 : res = .v .nilIface := by rw [hres, if_neg (by simp)]; rfl
    cbv
    repeat' first | with_reducible rfl | with_reducible refine And.intro ?_ ?_ | ((with_reducible intro hcc); first | (cases hcc; done) | skip) | ((with_reducible show goC _ _ _ _ _ _ _ _); cbv) | ((with_reducible show goOps _ _ _ _ _); cbv) | ((with_reducible show goD _ _ _ _ _ _); cbv) | ((with_reducible show okWr _ _ = _); rfl) | ((with_reducible refine callK_eq hA hP ?_ ?_ ?_ (Wks.refl _) (fun _ _ => h292)); exact rfl; exact rfl; cbv) | ((with_reducible refine callK_eq hA hP ?_ ?_ ?_ (Wks.refl _) (fun _ _ => h38)); exact rfl; exact rfl; cbv) | ((with_reducible show A.call _ _ _ _ false _ _ _ _); refine callK_no hA (.bool false) ?_; cbv) | ((with_reducible refine hA.fin_pl _ _ _ ?_); cbv) | ((with_reducible refine hA.len _ _ _ _ _ fun z hz hb => ?_); cbv) | ((with_reducible refine hA.gb0 true _ ?_); cbv) | ((with_reducible refine hA.gb0 false _ ?_); cbv) | ((with_reducible refine hA.gb _ _ fun vb hvb => ?_); cbv) | (simp only [hA.natLit, hA.natOf, hA.natCast]; cbv)
    all_goals try simp only [hA.add, hA.sub, hA.mul, hA.neg, hA.div, hA.mod, hA.mn, hA.mx, hA.eq, hA.lt, hA.le, hA.nat, hA.R, hA.lep, hA.ltp, hA.seq, inR, n_cast, Int.ofNat_eq_natCast, Option.getD_some, Option.getD_none] at *
    all_goals first | omega | rfl | trivial | (rw [hr2]; done) | (simp; done) | (trace_state; fail)
  · cases db
    · have hr2 : res = .v .nilIface := by rw [hres, if_neg (by simp)]; rfl
      cbv
      repeat' first | with_reducible rfl | with_reducible refine And.intro ?_ ?_ | ((with_reducible intro hcc); first | (cases hcc; done) | skip) | ((with_reducible show goC _ _ _ _ _ _ _ _); cbv) | ((with_reducible show goOps _ _ _ _ _); cbv) | ((with_reducible show goD _ _ _ _ _ _); cbv) | ((with_reducible show okWr _ _ = _); rfl) | ((with_reducible refine callK_eq hA hP ?_ ?_ ?_ (Wks.refl _) (fun _ _ => h292)); exact rfl; exact rfl; cbv) | ((with_reducible refine callK_eq hA hP ?_ ?_ ?_ (Wks.refl _) (fun _ _ => h38)); exact rfl; exact rfl; cbv) | ((with_reducible refine hA.fin_pl _ _ _ ?_); cbv) | ((with_reducible refine hA.len _ _ _ _ _ fun z hz hb => ?_); cbv) | ((with_reducible refine hA.gb0 true _ ?_); cbv) | ((with_reducible refine hA.gb0 false _ ?_); cbv) | ((with_reducible refine hA.gb _ _ fun vb hvb => ?_); cbv) | (simp only [hA.natLit, hA.natOf, hA.natCast]; cbv)
      all_goals try simp only [hA.add, hA.sub, hA.mul, hA.neg, hA.div, hA.mod, hA.mn, hA.mx, hA.eq, hA.lt, hA.le, hA.nat, hA.R, hA.lep, hA.ltp, hA.seq, inR, n_cast, Int.ofNat_eq_natCast, Option.getD_some, Option.getD_none] at *
      all_goals first | omega | rfl | trivial | (rw [hr2]; done) | (simp; done) | (trace_state; fail)
    · rw [if_pos ⟨rfl, rfl⟩] at hres
      have hn : 1 ≤ ns.length ∧ ns.length ≤ 2000 := by
        have := hb0.symm
        simp only [ordOk, Bool.and_eq_true, decide_eq_true_eq] at this
        exact this.1
      obtain ⟨zl, hzl⟩ : ∃ z, z = A.sub ze 1 := ⟨_, rfl⟩
      have hzl2 : zl = (ns.length : Int) - 1 := by rw [hzl, hA.sub]; omega
      rw [← hzl2] at hres
      have h293 := ok147 ns x hx hxl hlen ts xt hxt (cT_in hdb.symm) (ord_in hb0.symm) xs ns.length zl 0 (by omega) (by omega) (by omega) (by omega) (by omega)
      rw [← hres] at h293
      clear hres hxs haok hb0 hlen
      cbv
      repeat' first | with_reducible rfl | (simp only [← hzl]; cbv) | with_reducible refine And.intro ?_ ?_ | ((with_reducible intro hcc); first | (cases hcc; done) | skip) | ((with_reducible show goC _ _ _ _ _ _ _ _); cbv) | ((with_reducible show goOps _ _ _ _ _); cbv) | ((with_reducible show goD _ _ _ _ _ _); cbv) | ((with_reducible show okWr _ _ = _); rfl) | ((with_reducible refine callK_eq hA hP ?_ ?_ ?_ (Wks.refl _) (fun _ _ => h292)); exact rfl; exact rfl; cbv) | ((with_reducible refine callK_eq hA hP ?_ ?_ ?_ (Wks.refl _) (fun _ _ => h38)); exact rfl; exact rfl; cbv) | ((with_reducible refine callK_eq hA hP ?_ ?_ ?_ (Wks.refl _) (fun _ _ => h293)); exact rfl; exact rfl; cbv) | ((with_reducible refine hA.len x _ _ _ _ fun z hz hb => ?_); (have e6 := hze.trans hz.symm); subst e6; cbv) | ((with_reducible refine hA.fin_pl _ _ _ ?_); cbv) | ((with_reducible refine hA.len _ _ _ _ _ fun z hz hb => ?_); cbv) | ((with_reducible refine hA.gb0 true _ ?_); cbv) | ((with_reducible refine hA.gb0 false _ ?_); cbv) | ((with_reducible refine hA.gb _ _ fun vb hvb => ?_); cbv) | (simp only [hA.natLit, hA.natOf, hA.natCast]; cbv)
      all_goals try simp only [hA.add, hA.sub, hA.mul, hA.neg, hA.div, hA.mod, hA.mn, hA.mx, hA.eq, hA.lt, hA.le, hA.nat, hA.R, hA.lep, hA.ltp, hA.seq, inR, n_cast, Int.ofNat_eq_natCast, Option.getD_some, Option.getD_none] at *
      all_goals first | omega | rfl | trivial | (simp; done) | (trace_state; fail))
set_option maxRecDepth 100000 in
set_option maxHeartbeats 4000000 in
theorem ok38 (ns : List Pd) (x : List (List E)) (hx : x = ns.map pdr) (hxl : x.length ≤ 1048576) (hlen : ∀ d ∈ ns, d.Ex.length ≤ 1048576 ∧ d.Exs.length ≤ 1048576 ∧ ∀ e ∈ d.Exs, e.length ≤ 1048576) (ts : List Tb) (xt : List (List E)) (hxt : xt = ts.map tbr) (hsz : cTS ts ≤ 1048576) (w : Int) (ok : Bool) (hw : w = if planW ns ts < 0 then 0 else planW ns ts) (hok : ok = !decide (planW ns ts < 0)) :
    Plain Try.prog 38 [.agg [.e (.sl x)], .agg [.e (.sl xt)]] (.tup [.int w, .bool ok]) := okOf mixed p38 fun A P hA hP => (by
  have h245 := ok84 ns x hx hxl hlen ts xt hxt hsz
  have hrw := root_w ns ts
  have hsm := fun o => root_sm (ts := ts) (o := o) fun d hd => (hlen d hd).2.1
  cases ho : rootO ns ts with
  | none =>
    rw [ho] at h245 hrw
    have h245 : Plain Try.prog 84 [.agg [.e (.sl x)], .agg [.e (.sl xt)]] (.e (.v .nilIface)) := h245
    have hp : planW ns ts < 0 := by
      by_cases h : planW ns ts < 0
      · exact h
      · rw [if_neg h] at hrw; cases hrw
    rw [if_pos hp] at hw
    rw [decide_eq_true hp] at hok
    subst hw; subst hok
    cbv
    repeat' first | with_reducible rfl | with_reducible refine And.intro ?_ ?_ | ((with_reducible intro hcc); first | (cases hcc; done) | skip) | ((with_reducible show goC _ _ _ _ _ _ _ _); cbv) | ((with_reducible show goOps _ _ _ _ _); cbv) | ((with_reducible show goD _ _ _ _ _ _); cbv) | ((with_reducible show okWr _ _ = _); rfl) | ((with_reducible refine callK_eq hA hP ?_ ?_ ?_ (Wks.refl _) (fun _ _ => h245)); exact rfl; exact rfl; cbv) | (with_reducible refine hA.fin_tup _ _ _ ?_) | ((with_reducible refine hA.fin_pl _ _ _ ?_); cbv) | (simp only [hA.natLit, hA.natOf, hA.natCast]; cbv)
    all_goals try simp only [hA.add, hA.sub, hA.mul, hA.neg, hA.div, hA.mod, hA.mn, hA.mx, hA.eq, hA.lt, hA.le, hA.nat, hA.R, hA.lep, hA.ltp, hA.seq, inR, n_cast, Int.ofNat_eq_natCast, Option.getD_some, Option.getD_none] at *
    all_goals first | omega | rfl | trivial | (simp; done) | (trace_state; fail)
  | some o =>
    rw [ho] at h245 hrw
    obtain ⟨s1, s2, s3⟩ := hsm o ho
    obtain ⟨T3, c3, w3, b1, b2, b3⟩ := wid_of s1 (by omega)
    have h245 : Plain Try.prog 84 [.agg [.e (.sl x)], .agg [.e (.sl xt)]] (.e (.ia T3 c3)) := by rw [← b1]; exact h245
    have hp : ¬ planW ns ts < 0 := fun h => by rw [if_pos h] at hrw; cases hrw
    rw [if_neg hp] at hw hrw
    rw [decide_eq_false hp] at hok
    have hww : w = w3 := by rw [hw, ← b2]; exact (Option.some.inj hrw).symm
    subst hok
    rw [hww]
    obtain ⟨⟨fn3, d3, hd3, hfr3, hm3, hp3⟩⟩ := b3
    have hm3 : MRow P T3 "loop.example/s0035/impl.width" fn3 := hP ▸ hm3
    cbv
    repeat' first | with_reducible rfl | with_reducible refine And.intro ?_ ?_ | ((with_reducible intro hcc); first | (cases hcc; done) | skip) | ((with_reducible show goC _ _ _ _ _ _ _ _); cbv) | ((with_reducible show goOps _ _ _ _ _); cbv) | ((with_reducible show goD _ _ _ _ _ _); cbv) | ((with_reducible show okWr _ _ = _); rfl) | ((with_reducible refine callK_eq hA hP ?_ ?_ ?_ (Wks.refl _) (fun _ _ => h245)); exact rfl; exact rfl; cbv) | (with_reducible refine hA.fin_tup _ _ _ ?_) | ((with_reducible refine hA.invk hm3 hd3 ?_); cbv) | ((with_reducible show A.call _ _ _ _ _ fn3 _ _ _); refine callK_eq hA hP hfr3 rfl ?_ (Wks.refl _) (fun _ _ => hp3); cbv) | ((with_reducible refine hA.fin_pl _ _ _ ?_); cbv) | (simp only [hA.natLit, hA.natOf, hA.natCast]; cbv)
    all_goals try simp only [hA.add, hA.sub, hA.mul, hA.neg, hA.div, hA.mod, hA.mn, hA.mx, hA.eq, hA.lt, hA.le, hA.nat, hA.R, hA.lep, hA.ltp, hA.seq, inR, n_cast, Int.ofNat_eq_natCast, Option.getD_some, Option.getD_none] at *
    all_goals first | omega | rfl | trivial | (simp; done) | (trace_state; fail))
set_option maxRecDepth 100000 in
set_option maxHeartbeats 4000000 in
theorem ok36 (ns : List Pd) (x : List (List E)) (hx : x = ns.map pdr) (hxl : x.length ≤ 1048576) (hlen : ∀ d ∈ ns, d.Ex.length ≤ 1048576 ∧ d.Exs.length ≤ 1048576 ∧ ∀ e ∈ d.Exs, e.length ≤ 1048576) (ts : List Tb) (xt : List (List E)) (hxt : xt = ts.map tbr) (hsz : cTS ts ≤ 1048576) (w : Int) (ok : Bool) (hw : w = if planW ns ts < 0 then 0 else planW ns ts) (hok : ok = !decide (planW ns ts < 0)) :
    Plain Try.prog 36 [.agg [.e (.sl x)], .agg [.e (.sl xt)]] (.tup [.int w, .bool ok]) := okOf mixed p36 fun A P hA hP => (by
  have hxn : x.length = ns.length := by rw [hx]; simp
  obtain ⟨ze, hze⟩ : ∃ z : Int, z = x.length := ⟨_, rfl⟩
  have h36 := ok73 ts xt hxt hsz
  obtain ⟨db, hdb⟩ : ∃ b, b = dbOk ts := ⟨_, rfl⟩
  rw [← hdb] at h36
  have hbad : ¬ (dbOk ts = true ∧ ordOk ns = true) → w = 0 ∧ ok = false := fun h => by
    have : planW ns ts = -1 := if_neg h
    rw [this] at hw hok
    exact ⟨hw, hok⟩
  cases db
  case false =>
    obtain ⟨rfl, rfl⟩ := hbad (fun h => by rw [← hdb] at h; cases h.1)
    cbv
    repeat' first | with_reducible rfl | with_reducible refine And.intro ?_ ?_ | ((with_reducible intro hcc); first | (cases hcc; done) | skip) | ((with_reducible show goC _ _ _ _ _ _ _ _); cbv) | ((with_reducible show goOps _ _ _ _ _); cbv) | ((with_reducible show goD _ _ _ _ _ _); cbv) | ((with_reducible show okWr _ _ = _); rfl) | ((with_reducible refine callK_eq hA hP ?_ ?_ ?_ (Wks.refl _) (fun _ _ => h36)); exact rfl; exact rfl; cbv) | (with_reducible refine hA.fin_tup _ _ _ ?_) | ((with_reducible show A.call _ _ _ _ false _ _ _ _); refine callK_no hA (.int 0) ?_; cbv) | ((with_reducible refine hA.len x _ _ _ _ fun z hz hb => ?_); (have e6 := hze.trans hz.symm); subst e6; cbv) | ((with_reducible refine hA.fin_pl _ _ _ ?_); cbv) | ((with_reducible refine hA.len _ _ _ _ _ fun z hz hb => ?_); cbv) | ((with_reducible refine hA.gb0 true _ ?_); cbv) | ((with_reducible refine hA.gb0 false _ ?_); cbv) | ((with_reducible refine hA.gb _ _ fun vb hvb => ?_); cbv) | (simp only [hA.natLit, hA.natOf, hA.natCast]; cbv)
    all_goals try simp only [hA.add, hA.sub, hA.mul, hA.neg, hA.div, hA.mod, hA.mn, hA.mx, hA.eq, hA.lt, hA.le, hA.nat, hA.R, hA.lep, hA.ltp, hA.seq, inR, n_cast, Int.ofNat_eq_natCast, Option.getD_some, Option.getD_none] at *
    all_goals first | omega | rfl | trivial | (simp; done) | (trace_state; fail)
  case true =>
  by_cases h1 : ze < 1
  · have e1 : A.lt ze 1 = true := by rw [hA.lt]; exact decide_eq_true h1
    obtain ⟨rfl, rfl⟩ := hbad (fun h => by
      have := h.2
      simp only [ordOk, Bool.and_eq_true, decide_eq_true_eq] at this
      omega)
    cbv
    repeat' first | with_reducible rfl | (simp only [e1]; cbv) | with_reducible refine And.intro ?_ ?_ | ((with_reducible intro hcc); first | (cases hcc; done) | skip) | ((with_reducible show goC _ _ _ _ _ _ _ _); cbv) | ((with_reducible show goOps _ _ _ _ _); cbv) | ((with_reducible show goD _ _ _ _ _ _); cbv) | ((with_reducible show okWr _ _ = _); rfl) | ((with_reducible refine callK_eq hA hP ?_ ?_ ?_ (Wks.refl _) (fun _ _ => h36)); exact rfl; exact rfl; cbv) | (with_reducible refine hA.fin_tup _ _ _ ?_) | ((with_reducible show A.call _ _ _ _ false _ _ _ _); refine callK_no hA (.int 0) ?_; cbv) | ((with_reducible refine hA.len x _ _ _ _ fun z hz hb => ?_); (have e6 := hze.trans hz.symm); subst e6; cbv) | ((with_reducible refine hA.fin_pl _ _ _ ?_); cbv) | ((with_reducible refine hA.len _ _ _ _ _ fun z hz hb => ?_); cbv) | ((with_reducible refine hA.gb0 true _ ?_); cbv) | ((with_reducible refine hA.gb0 false _ ?_); cbv) | ((with_reducible refine hA.gb _ _ fun vb hvb => ?_); cbv) | (simp only [hA.natLit, hA.natOf, hA.natCast]; cbv)
    all_goals try simp only [hA.add, hA.sub, hA.mul, hA.neg, hA.div, hA.mod, hA.mn, hA.mx, hA.eq, hA.lt, hA.le, hA.nat, hA.R, hA.lep, hA.ltp, hA.seq, inR, n_cast, Int.ofNat_eq_natCast, Option.getD_some, Option.getD_none] at *
    all_goals first | omega | rfl | trivial | (simp; done) | (trace_state; fail)
  have e1 : A.lt ze 1 = false := by rw [hA.lt]; exact decide_eq_false h1
  by_cases h2 : 2000 < ze
  · have e2 : A.lt 2000 ze = true := by rw [hA.lt]; exact decide_eq_true h2
    obtain ⟨rfl, rfl⟩ := hbad (fun h => by
      have := h.2
      simp only [ordOk, Bool.and_eq_true, decide_eq_true_eq] at this
      omega)
    cbv
    repeat' first | with_reducible rfl | (simp only [e2]; cbv) | (simp only [e1]; cbv) | with_reducible refine And.intro ?_ ?_ | ((with_reducible intro hcc); first | (cases hcc; done) | skip) | ((with_reducible show goC _ _ _ _ _ _ _ _); cbv) | ((with_reducible show goOps _ _ _ _ _); cbv) | ((with_reducible show goD _ _ _ _ _ _); cbv) | ((with_reducible show okWr _ _ = _); rfl) | ((with_reducible refine callK_eq hA hP ?_ ?_ ?_ (Wks.refl _) (fun _ _ => h36)); exact rfl; exact rfl; cbv) | (with_reducible refine hA.fin_tup _ _ _ ?_) | ((with_reducible show A.call _ _ _ _ false _ _ _ _); refine callK_no hA (.int 0) ?_; cbv) | ((with_reducible refine hA.len x _ _ _ _ fun z hz hb => ?_); (have e6 := hze.trans hz.symm); subst e6; cbv) | ((with_reducible refine hA.fin_pl _ _ _ ?_); cbv) | ((with_reducible refine hA.len _ _ _ _ _ fun z hz hb => ?_); cbv) | ((with_reducible refine hA.gb0 true _ ?_); cbv) | ((with_reducible refine hA.gb0 false _ ?_); cbv) | ((with_reducible refine hA.gb _ _ fun vb hvb => ?_); cbv) | (simp only [hA.natLit, hA.natOf, hA.natCast]; cbv)
    all_goals try simp only [hA.add, hA.sub, hA.mul, hA.neg, hA.div, hA.mod, hA.mn, hA.mx, hA.eq, hA.lt, hA.le, hA.nat, hA.R, hA.lep, hA.ltp, hA.seq, inR, n_cast, Int.ofNat_eq_natCast, Option.getD_some, Option.getD_none] at *
    all_goals first | omega | rfl | trivial | (simp; done) | (trace_state; fail)
  have e2 : A.lt 2000 ze = false := by rw [hA.lt]; exact decide_eq_false h2
  obtain ⟨zl, hzl⟩ : ∃ z, z = A.sub ze 1 := ⟨_, rfl⟩
  have hzl2 : zl = (ns.length : Int) - 1 := by rw [hzl, hA.sub]; omega
  have h242 := ok81 ns x hx hxl ns.length zl (by omega) (by omega) (by omega)
  have hord := l3F_ord (ns := ns) (by omega)
  rw [← hzl2] at hord
  obtain ⟨fz, hfz⟩ : ∃ f, f = l3F ns ns.length zl := ⟨_, rfl⟩
  rw [← hfz] at h242 hord
  by_cases h3 : fz = 0
  case neg =>
    have e3 : A.eq fz 0 = false := by rw [hA.eq]; exact decide_eq_false h3
    obtain ⟨rfl, rfl⟩ := hbad (fun h => by rw [hord, decide_eq_false h3] at h; cases h.2)
    cbv
    repeat' first | with_reducible rfl | (simp only [e3]; cbv) | (simp only [e2]; cbv) | (simp only [e1]; cbv) | (simp only [← hzl]; cbv) | with_reducible refine And.intro ?_ ?_ | ((with_reducible intro hcc); first | (cases hcc; done) | skip) | ((with_reducible show goC _ _ _ _ _ _ _ _); cbv) | ((with_reducible show goOps _ _ _ _ _); cbv) | ((with_reducible show goD _ _ _ _ _ _); cbv) | ((with_reducible show okWr _ _ = _); rfl) | ((with_reducible refine callK_eq hA hP ?_ ?_ ?_ (Wks.refl _) (fun _ _ => h36)); exact rfl; exact rfl; cbv) | ((with_reducible refine callK_eq hA hP ?_ ?_ ?_ (Wks.refl _) (fun _ _ => h242)); exact rfl; exact rfl; cbv) | (with_reducible refine hA.fin_tup _ _ _ ?_) | ((with_reducible refine hA.len x _ _ _ _ fun z hz hb => ?_); (have e6 := hze.trans hz.symm); subst e6; cbv) | ((with_reducible refine hA.fin_pl _ _ _ ?_); cbv) | ((with_reducible refine hA.len _ _ _ _ _ fun z hz hb => ?_); cbv) | ((with_reducible refine hA.gb0 true _ ?_); cbv) | ((with_reducible refine hA.gb0 false _ ?_); cbv) | ((with_reducible refine hA.gb _ _ fun vb hvb => ?_); cbv) | (simp only [hA.natLit, hA.natOf, hA.natCast]; cbv)
    all_goals try simp only [hA.add, hA.sub, hA.mul, hA.neg, hA.div, hA.mod, hA.mn, hA.mx, hA.eq, hA.lt, hA.le, hA.nat, hA.R, hA.lep, hA.ltp, hA.seq, inR, n_cast, Int.ofNat_eq_natCast, Option.getD_some, Option.getD_none] at *
    all_goals first | omega | rfl | trivial | (simp; done) | (trace_state; fail)
  case pos =>
  have e3 : A.eq fz 0 = true := by rw [hA.eq]; exact decide_eq_true h3
  rw [decide_eq_true h3] at hord
  have hpw : planW ns ts = wS ns ts.length (colsOf ts) ns.length zl 0 := by rw [planW, if_pos ⟨hdb.symm, hord⟩, hzl2]
  have h243 := ok82 ns x hx hlen ts xt hxt (cT_in hdb.symm) (ord_in hord) ns.length zl 0 (by omega) (by omega) (by omega) (by omega) (by omega)
  rw [← hpw] at h243
  obtain ⟨pw, hp⟩ : ∃ p, p = planW ns ts := ⟨_, rfl⟩
  rw [← hp] at h243 hw hok
  clear hbad hpw hp hlen
  by_cases h4 : pw < 0
  · have e4 : A.lt pw 0 = true := by rw [hA.lt]; exact decide_eq_true h4
    rw [if_pos h4] at hw
    rw [decide_eq_true h4] at hok
    subst hw; subst hok
    cbv
    repeat' first | with_reducible rfl | (simp only [e4]; cbv) | (simp only [e3]; cbv) | (simp only [e2]; cbv) | (simp only [e1]; cbv) | (simp only [← hzl]; cbv) | with_reducible refine And.intro ?_ ?_ | ((with_reducible intro hcc); first | (cases hcc; done) | skip) | ((with_reducible show goC _ _ _ _ _ _ _ _); cbv) | ((with_reducible show goOps _ _ _ _ _); cbv) | ((with_reducible show goD _ _ _ _ _ _); cbv) | ((with_reducible show okWr _ _ = _); rfl) | ((with_reducible refine callK_eq hA hP ?_ ?_ ?_ (Wks.refl _) (fun _ _ => h36)); exact rfl; exact rfl; cbv) | ((with_reducible refine callK_eq hA hP ?_ ?_ ?_ (Wks.refl _) (fun _ _ => h242)); exact rfl; exact rfl; cbv) | ((with_reducible refine callK_eq hA hP ?_ ?_ ?_ (Wks.refl _) (fun _ _ => h243)); exact rfl; exact rfl; cbv) | (with_reducible refine hA.fin_tup _ _ _ ?_) | ((with_reducible refine hA.len x _ _ _ _ fun z hz hb => ?_); (have e6 := hze.trans hz.symm); subst e6; cbv) | ((with_reducible refine hA.fin_pl _ _ _ ?_); cbv) | ((with_reducible refine hA.len _ _ _ _ _ fun z hz hb => ?_); cbv) | ((with_reducible refine hA.gb0 true _ ?_); cbv) | ((with_reducible refine hA.gb0 false _ ?_); cbv) | ((with_reducible refine hA.gb _ _ fun vb hvb => ?_); cbv) | (simp only [hA.natLit, hA.natOf, hA.natCast]; cbv)
    all_goals try simp only [hA.add, hA.sub, hA.mul, hA.neg, hA.div, hA.mod, hA.mn, hA.mx, hA.eq, hA.lt, hA.le, hA.nat, hA.R, hA.lep, hA.ltp, hA.seq, inR, n_cast, Int.ofNat_eq_natCast, Option.getD_some, Option.getD_none] at *
    all_goals first | omega | rfl | trivial | (simp; done) | (trace_state; fail)
  · have e4 : A.lt pw 0 = false := by rw [hA.lt]; exact decide_eq_false h4
    rw [if_neg h4] at hw
    rw [decide_eq_false h4] at hok
    subst hw; subst hok
    cbv
    repeat' first | with_reducible rfl | (simp only [e4]; cbv) | (simp only [e3]; cbv) | (simp only [e2]; cbv) | (simp only [e1]; cbv) | (simp only [← hzl]; cbv) | with_reducible refine And.intro ?_ ?_ | ((with_reducible intro hcc); first | (cases hcc; done) | skip) | ((with_reducible show goC _ _ _ _ _ _ _ _); cbv) | ((with_reducible show goOps _ _ _ _ _); cbv) | ((with_reducible show goD _ _ _ _ _ _); cbv) | ((with_reducible show okWr _ _ = _); rfl) | ((with_reducible refine callK_eq hA hP ?_ ?_ ?_ (Wks.refl _) (fun _ _ => h36)); exact rfl; exact rfl; cbv) | ((with_reducible refine callK_eq hA hP ?_ ?_ ?_ (Wks.refl _) (fun _ _ => h242)); exact rfl; exact rfl; cbv) | ((with_reducible refine callK_eq hA hP ?_ ?_ ?_ (Wks.refl _) (fun _ _ => h243)); exact rfl; exact rfl; cbv) | (with_reducible refine hA.fin_tup _ _ _ ?_) | ((with_reducible refine hA.len x _ _ _ _ fun z hz hb => ?_); (have e6 := hze.trans hz.symm); subst e6; cbv) | ((with_reducible refine hA.fin_pl _ _ _ ?_); cbv) | ((with_reducible refine hA.len _ _ _ _ _ fun z hz hb => ?_); cbv) | ((with_reducible refine hA.gb0 true _ ?_); cbv) | ((with_reducible refine hA.gb0 false _ ?_); cbv) | ((with_reducible refine hA.gb _ _ fun vb hvb => ?_); cbv) | (simp only [hA.natLit, hA.natOf, hA.natCast]; cbv)
    all_goals try simp only [hA.add, hA.sub, hA.mul, hA.neg, hA.div, hA.mod, hA.mn, hA.mx, hA.eq, hA.lt, hA.le, hA.nat, hA.R, hA.lep, hA.ltp, hA.seq, inR, n_cast, Int.ofNat_eq_natCast, Option.getD_some, Option.getD_none] at *
    all_goals first | omega | rfl | trivial | (simp; done) | (trace_state; fail))
end Go.Proofs.Ytfplalbognalkaa.Ab
/- The laws' helpers over expressions: measured, copied, alike. -/
namespace Go.Proofs.Ytfplalbognalkaa.Ab
open Go
def cO (r : List (Int × Int)) : Int := r.length
theorem cO_nonneg (r : List (Int × Int)) : 0 ≤ cO r := by unfold cO; omega
def cOS (r : List (List (Int × Int))) : Int := r.length + sumC cO r
theorem cOS_nonneg (r : List (List (Int × Int))) : 0 ≤ cOS r := by have := sumC_nonneg cO_nonneg r; unfold cOS; omega
theorem ok172' (r : List (Int × Int)) (x : List (List E)) (hx : x = r.map orow) (left : Int) (h : 0 ≤ left ∧ left ≤ 1048576) : Plain Try.prog 172 [.e (.sl x), .int left] (.int (cut left (cO r))) := by
  have := ok172 x left h
  rw [hx, List.length_map] at this
  rw [hx]; exact this
set_option maxRecDepth 100000 in
theorem ok173 (l : List (List (Int × Int))) (es : List (List E)) (he : es = l.map orr) (left : Int) (h : 0 ≤ left ∧ left ≤ 1048576) : Plain Try.prog 173 [.e (.sl es), .int left] (.int (cut left (l.length + sumC cO l))) := okOf mixed p173 fun A P hA hP => (by
  have hl1 : es.length = l.length := by rw [he]; simp
  have hsn : ∀ l : List (List (Int × Int)), 0 ≤ sumC cO l := sumC_nonneg cO_nonneg
  obtain ⟨r, hr⟩ : ∃ r, r = cut left (l.length + sumC cO l) := ⟨_, rfl⟩
  rw [← hr]
  have hr2 : r = cut (left - es.length) (sumC cO l) := by rw [hr, hl1, cut, cut]; congr 1 <;> (try apply propext) <;> omega
  clear hr
  cbv
  repeat' first | with_reducible rfl | with_reducible refine And.intro ?_ ?_ | ((with_reducible intro hcc); first | (cases hcc; done) | skip) | ((with_reducible show goC _ _ _ _ _ _ _ _); cbv) | ((with_reducible show goOps _ _ _ _ _); cbv) | ((with_reducible show goD _ _ _ _ _ _); cbv) | ((with_reducible show okWr _ _ = _); rfl) | ((with_reducible refine hA.fin_pl _ _ _ ?_); cbv) | ((with_reducible refine hA.len _ _ _ _ _ fun z hz hb => ?_); cbv) | ((with_reducible refine hA.off _ _ _ _ fun b hb => ?_); cbv) | ((with_reducible refine hA.sapp _ _ _ ⟨?_, fun sl hsl => ?_⟩); rotate_left; cbv) | (simp only [hA.natLit, hA.natOf, hA.natCast]; cbv)
  all_goals try simp only [hA.add, hA.sub, hA.mul, hA.neg, hA.div, hA.mod, hA.mn, hA.mx, hA.eq, hA.lt, hA.le, hA.nat, hA.R, hA.lep, hA.ltp, hA.seq, inR, n_cast, Int.ofNat_eq_natCast, Option.getD_some, Option.getD_none] at *
  all_goals try (first | omega | (have := hb trivial trivial trivial; omega) | (have : r = -1 := (by simp only [decide_eq_true_eq] at *; have := hsn l; rw [hr2]; unfold cut; split <;> omega); rw [this]; done))
  · refine hA.loopI (fun n s => ∃ (i lf : Int), 0 ≤ i ∧ n + i = es.length ∧ 0 ≤ lf ∧ lf ≤ 1048576 ∧ r = cut lf (sumC cO (l.drop i.toNat)) ∧
        s = ⟨[(5, .int i), (0, .e (.sl es)), (1, .int lf), (4, .int 0)], []⟩) es.length _
      (Weak.keep (env' := [(5, .int 0), (0, .e (.sl es)), (1, .int (left - z)), (4, .int 0)]) ⟨rfl, rfl, rfl, rfl, trivial⟩) ⟨0, left - z, by omega, by omega, by simp only [decide_eq_false_iff_not] at *; omega, by omega, (by rw [hr2, hz]; rfl), rfl⟩ ?_
    rintro n s K ⟨i, lf, h0, h1, h2, h3, h4, rfl⟩ hK
    clear hr2
    by_cases hin : (0 : Int) ≤ i ∧ i < es.length
    · obtain ⟨r1, e1, q1⟩ := row_at he hin
      obtain ⟨x1, hx1⟩ : ∃ x, x = r1.map orow := ⟨_, rfl⟩
      have e1 : es.getD i.toNat [] = [E.sl x1] := e1.trans (by rw [hx1])
      rw [sumC_drop q1] at h4
      obtain ⟨S, hS⟩ : ∃ S, S = sumC cO (l.drop (i.toNat + 1)) := ⟨_, rfl⟩
      have hS0 : 0 ≤ S := hS ▸ hsn _
      obtain ⟨c, hcost⟩ : ∃ c, c = cO r1 := ⟨_, rfl⟩
      have hc0 : 0 ≤ c := hcost ▸ cO_nonneg _
      have hc := ok172' r1 x1 hx1 lf ⟨h2, h3⟩
      rw [← hS, ← hcost] at h4
      rw [← hcost] at hc
      obtain ⟨u, hu⟩ : ∃ u, u = cut lf c := ⟨_, rfl⟩
      rw [← hu] at hc
      have e8 : (i + 1).toNat = i.toNat + 1 := by omega
      have g1 : u < 0 → r = -1 := fun a => by rw [h4]; unfold cut at hu ⊢; split at hu <;> split <;> omega
      have g2 : 0 ≤ u → r = cut u S ∧ u ≤ lf := fun a => by
        have hu2 : u = lf - c := by rw [hu] at a ⊢; unfold cut at a ⊢; split at a <;> split <;> omega
        refine ⟨?_, by omega⟩
        rw [h4, hu2]
        unfold cut
        rw [show lf - (c + S) = lf - c - S by omega]
      clear h4 hu hcost
      cbv
      repeat' first | with_reducible rfl | with_reducible refine And.intro ?_ ?_ | ((with_reducible intro hcc); first | (cases hcc; done) | skip) | ((with_reducible show goC _ _ _ _ _ _ _ _); cbv) | ((with_reducible show goOps _ _ _ _ _); cbv) | ((with_reducible show goD _ _ _ _ _ _); cbv) | ((with_reducible show okWr _ _ = _); rfl) | ((with_reducible refine callK_eq hA hP ?_ ?_ ?_ (Wks.refl _) (fun _ _ => hc)); exact rfl; exact rfl; cbv) | ((with_reducible refine hA.row es _ _ ⟨hin, fun row hrow => ?_⟩); rw [e1] at hrow; subst hrow; cbv) | ((with_reducible refine hA.fin_pl _ _ _ ?_); cbv) | ((with_reducible refine hA.len _ _ _ _ _ fun z hz hb => ?_); cbv) | ((with_reducible refine hA.off _ _ _ _ fun b hb => ?_); cbv) | ((with_reducible refine hA.sapp _ _ _ ⟨?_, fun sl hsl => ?_⟩); rotate_left; cbv) | (simp only [hA.natLit, hA.natOf, hA.natCast]; cbv)
      all_goals try simp only [hA.add, hA.sub, hA.mul, hA.neg, hA.div, hA.mod, hA.mn, hA.mx, hA.eq, hA.lt, hA.le, hA.nat, hA.R, hA.lep, hA.ltp, hA.seq, inR, n_cast, Int.ofNat_eq_natCast, Option.getD_some, Option.getD_none] at *
      all_goals first
        | omega
        | (clear hK g1 g2 he; simp at *; omega)
        | (rw [g1 (by clear hK g2; simp at *; omega)]; done)
        | (have hu0 : 0 ≤ u := (by clear hK; simp at *; omega)
           exact hK _ (n - 1) _ (by omega) (Weak.keep (env' := [(5, .int (i + 1)), (0, .e (.sl es)), (1, .int u), (4, .int 0)]) ⟨rfl, rfl, rfl, rfl, trivial⟩) ⟨i + 1, u, by omega, by omega, hu0, by have := (g2 hu0).2; omega, by rw [e8, ← hS]; exact (g2 hu0).1, rfl⟩)
        | (clear hK g1 g2 he; simp at *; omega)
        | (trace_state; fail)
    · have hd : l.drop i.toNat = [] := by rw [List.drop_eq_nil_iff]; omega
      rw [hd] at h4
      have h5 : r = lf := by rw [h4, sumC, cut, if_neg (by omega)]; omega
      clear h4 hK
      cbv
      repeat' first | with_reducible rfl | with_reducible refine And.intro ?_ ?_ | ((with_reducible intro hcc); first | (cases hcc; done) | skip) | ((with_reducible show goC _ _ _ _ _ _ _ _); cbv) | ((with_reducible show goOps _ _ _ _ _); cbv) | ((with_reducible show goD _ _ _ _ _ _); cbv) | ((with_reducible show okWr _ _ = _); rfl) | (exfalso; simp only [hA.lt, hA.sub, decide_eq_true_eq, decide_eq_false_iff_not, n_cast] at *; omega) | ((with_reducible refine hA.fin_pl _ _ _ ?_); cbv) | ((with_reducible refine hA.len _ _ _ _ _ fun z hz hb => ?_); cbv) | ((with_reducible refine hA.off _ _ _ _ fun b hb => ?_); cbv) | ((with_reducible refine hA.sapp _ _ _ ⟨?_, fun sl hsl => ?_⟩); rotate_left; cbv) | (simp only [hA.natLit, hA.natOf, hA.natCast]; cbv)
      all_goals try simp only [hA.add, hA.sub, hA.mul, hA.neg, hA.div, hA.mod, hA.mn, hA.mx, hA.eq, hA.lt, hA.le, hA.nat, hA.R, hA.lep, hA.ltp, hA.seq, inR, n_cast, Int.ofNat_eq_natCast, Option.getD_some, Option.getD_none] at *
      all_goals first
        | (rw [h5])
        | omega
        | (clear he; simp at *; omega)
        | (trace_state; fail))
set_option maxRecDepth 100000 in
set_option maxHeartbeats 1000000 in
theorem ok177 (l : List (List (Int × Int))) (es : List (List E)) (he : es = l.map orr) (hlen : es.length ≤ 1048576) (hb2 : ∀ d ∈ l, d.length ≤ 1048576) : Plain Try.prog 177 [.e (.sl es)] (.e (.sl es)) := okOf mixed p177 fun A P hA hP => (by
  have hl1 : es.length = l.length := by rw [he]; simp
  have hes : ∀ e ∈ es, e.length = 1 := by
    rw [he]
    intro e h
    obtain ⟨p, _, rfl⟩ := List.mem_map.1 h
    rfl
  cbv
  repeat' first | with_reducible rfl | with_reducible refine And.intro ?_ ?_ | ((with_reducible intro hcc); first | (cases hcc; done) | skip) | ((with_reducible show goC _ _ _ _ _ _ _ _); cbv) | ((with_reducible show goOps _ _ _ _ _); cbv) | ((with_reducible show goD _ _ _ _ _ _); cbv) | ((with_reducible show okWr _ _ = _); rfl) | ((with_reducible refine hA.fin_pl _ _ _ ?_); cbv) | ((with_reducible refine hA.len _ _ _ _ _ fun z hz hb => ?_); cbv) | ((with_reducible refine hA.off _ _ _ _ fun b hb => ?_); cbv) | ((with_reducible refine hA.rep _ _ _ fun ds m hds hm => ?_); cbv) | ((with_reducible refine hA.st _ _ _ _ _ ⟨?_, fun ds hds => ?_⟩); rotate_left; cbv) | ((with_reducible refine hA.alt _ _ (Or.inl ?_)); cbv) | ((with_reducible refine hA.sapp _ _ _ ⟨?_, fun sl hsl => ?_⟩); rotate_left; cbv) | (simp only [hA.natLit, hA.natOf, hA.natCast]; cbv)
  all_goals try simp only [hA.add, hA.sub, hA.mul, hA.neg, hA.div, hA.mod, hA.mn, hA.mx, hA.eq, hA.lt, hA.le, hA.nat, hA.R, hA.lep, hA.ltp, hA.seq, inR, n_cast, Int.ofNat_eq_natCast, Option.getD_some, Option.getD_none] at *
  · omega
  · omega
  · refine hA.loopI (fun n s => ∃ (i : Int) (xs : List (List E)), 0 ≤ i ∧ n + i = es.length ∧ xs.length = es.length ∧ (∀ e ∈ xs, e.length = 1) ∧ (∀ j : Nat, j < i → xs[j]? = es[j]?) ∧
        s = ⟨[(4, .int i), (3, .bs 0 0 m 1), (2, .zs), (0, .e (.sl es))], [.box (xs.flatten.map .e)]⟩) es.length _
      (Weak.keep (env' := [(4, .int 0), (3, .bs 0 0 m 1), (2, .zs), (0, .e (.sl es))]) ⟨rfl, rfl, rfl, rfl, trivial⟩)
      ⟨0, List.replicate m [E.sl []], by omega, by omega, by simp; omega, by simp, fun j hj => by omega, by rw [← buf_zero, hm]; rw [hds]; rfl⟩ ?_
    rintro n s K ⟨i, xs, h0, h1, h2, h3, h4, rfl⟩ hK
    obtain ⟨ys, hys⟩ : ∃ ys, ys = xs.flatten.map D.e := ⟨_, rfl⟩
    have hyl : ys.length = xs.length * 1 := by rw [hys, List.length_map, flatten_len h3]
    rw [← hys]
    by_cases hin : (0 : Int) ≤ i ∧ i < es.length
    · obtain ⟨r1, e1, q1⟩ := row_at he hin
      obtain ⟨x1, hx1⟩ : ∃ x, x = r1.map orow := ⟨_, rfl⟩
      have e1 : es.getD i.toNat [] = [E.sl x1] := e1.trans (by rw [hx1])
      have hc := ok176 r1 x1 hx1 (by rw [hx1, List.length_map]; exact hb2 _ (List.mem_of_getElem? q1))
      have hrow0 : es[i.toNat]? = some (es.getD i.toNat []) := by
        have : i.toNat < es.length := by omega
        simp [List.getD, this]
      have hrl : (es.getD i.toNat []).length = 1 := hes _ (List.mem_of_getElem? hrow0)
      cbv
      repeat' first | with_reducible rfl | with_reducible refine And.intro ?_ ?_ | ((with_reducible intro hcc); first | (cases hcc; done) | skip) | ((with_reducible show goC _ _ _ _ _ _ _ _); cbv) | ((with_reducible show goOps _ _ _ _ _); cbv) | ((with_reducible show goD _ _ _ _ _ _); cbv) | ((with_reducible show okWr _ _ = _); rfl) | ((with_reducible refine callK_eq hA hP ?_ ?_ ?_ (Wks.refl _) (fun _ _ => hc)); exact rfl; exact rfl; cbv) | ((with_reducible refine hA.row es _ _ ⟨hin, fun row hrow => ?_⟩); rw [e1] at hrow; subst hrow; cbv) | ((with_reducible refine hA.fin_pl _ _ _ ?_); cbv) | ((with_reducible refine hA.len _ _ _ _ _ fun z hz hb => ?_); cbv) | ((with_reducible refine hA.off _ _ _ _ fun b hb => ?_); cbv) | ((with_reducible refine hA.rep _ _ _ fun ds m hds hm => ?_); cbv) | ((with_reducible refine hA.st _ _ _ _ _ ⟨?_, fun ds hds => ?_⟩); rotate_left; cbv) | ((with_reducible refine hA.alt _ _ (Or.inl ?_)); cbv) | ((with_reducible refine hA.sapp _ _ _ ⟨?_, fun sl hsl => ?_⟩); rotate_left; cbv) | (simp only [hA.natLit, hA.natOf, hA.natCast]; cbv)
      all_goals try simp only [hA.add, hA.sub, hA.mul, hA.neg, hA.div, hA.mod, hA.mn, hA.mx, hA.eq, hA.lt, hA.le, hA.nat, hA.R, hA.lep, hA.ltp, hA.seq, inR, n_cast, Int.ofNat_eq_natCast, Option.getD_some, Option.getD_none] at *
      all_goals first
        | (show _ < (m : Int); omega)
        | omega
        | (clear hK h4 he; grind; done)
        | (have hb' : b = i.toNat * 1 := by omega
           refine hK _ (n - 1) _ (by omega) (Weak.keep (env' := [(4, .int (i + 1)), (3, .bs 0 0 m 1), (2, .zs), (0, .e (.sl es))]) ⟨rfl, rfl, rfl, rfl, trivial⟩)
             ⟨i + 1, xs.set i.toNat (es.getD i.toNat []), by omega, by omega, by simp [h2], fun e h => ?_, fun j hj => ?_, ?_⟩
           · rcases List.mem_or_eq_of_mem_set h with h | rfl
             · exact h3 e h
             · exact hrl
           · by_cases hji : (j : Int) < i
             · rw [List.getElem?_set_ne (show i.toNat ≠ j by omega)]; exact h4 j hji
             · have : j = i.toNat := by omega
               subst this
               rw [List.getElem?_set_self (show i.toNat < xs.length by omega), hrow0]
           · congr 2
             rw [hds, hys, hb']
             congr 1
             have q := buf_set (k := 1) (by omega) h3 (i := i.toNat) (show i.toNat < xs.length by omega) hrl
             rw [e1] at q ⊢
             exact q)
    · have hxe : xs = es := by
        refine List.ext_getElem? fun j => ?_
        by_cases hj : (j : Int) < i
        · exact h4 j hj
        · rw [List.getElem?_eq_none (by omega), List.getElem?_eq_none (by omega)]
      cbv
      repeat' first | with_reducible rfl | with_reducible refine And.intro ?_ ?_ | ((with_reducible intro hcc); first | (cases hcc; done) | skip) | ((with_reducible show goC _ _ _ _ _ _ _ _); cbv) | ((with_reducible show goOps _ _ _ _ _); cbv) | ((with_reducible show goD _ _ _ _ _ _); cbv) | ((with_reducible show okWr _ _ = _); rfl) | (exfalso; simp only [hA.lt, hA.sub, decide_eq_true_eq, decide_eq_false_iff_not, n_cast] at *; omega) | ((with_reducible refine hA.fin_bs (es := es) ?_ ?_ hes)) | ((with_reducible refine hA.fin_pl _ _ _ ?_); cbv) | ((with_reducible refine hA.len _ _ _ _ _ fun z hz hb => ?_); cbv) | ((with_reducible refine hA.off _ _ _ _ fun b hb => ?_); cbv) | ((with_reducible refine hA.rep _ _ _ fun ds m hds hm => ?_); cbv) | ((with_reducible refine hA.st _ _ _ _ _ ⟨?_, fun ds hds => ?_⟩); rotate_left; cbv) | ((with_reducible refine hA.alt _ _ (Or.inl ?_)); cbv) | ((with_reducible refine hA.sapp _ _ _ ⟨?_, fun sl hsl => ?_⟩); rotate_left; cbv) | (simp only [hA.natLit, hA.natOf, hA.natCast]; cbv)
      all_goals try simp only [hA.add, hA.sub, hA.mul, hA.neg, hA.div, hA.mod, hA.mn, hA.mx, hA.eq, hA.lt, hA.le, hA.nat, hA.R, hA.lep, hA.ltp, hA.seq, inR, n_cast, Int.ofNat_eq_natCast, Option.getD_some, Option.getD_none] at *
      all_goals first
        | (rw [hys, hxe]; rfl)
        | omega
        | (clear hK h4 he; grind; done)
        | (trace_state; fail))
set_option maxRecDepth 100000 in
theorem ok185 (l l' : List (List (Int × Int))) (es fs : List (List E)) (he : es = l.map orr) (hf : fs = l'.map orr) : Plain Try.prog 185 [.e (.sl es), .e (.sl fs)] (.bool (decide (l = l'))) := okOf mixed p185 fun A P hA hP => (by
  obtain ⟨r, hr⟩ : ∃ r : Bool, r = decide (l = l') := ⟨_, rfl⟩
  rw [← hr]
  have hl1 : es.length = l.length := by rw [he]; simp
  have hl2 : fs.length = l'.length := by rw [hf]; simp
  cbv
  repeat' first | with_reducible rfl | with_reducible refine And.intro ?_ ?_ | ((with_reducible intro hcc); first | (cases hcc; done) | skip) | ((with_reducible show goC _ _ _ _ _ _ _ _); cbv) | ((with_reducible show goOps _ _ _ _ _); cbv) | ((with_reducible show goD _ _ _ _ _ _); cbv) | ((with_reducible show okWr _ _ = _); rfl) | ((with_reducible refine hA.fin_pl _ _ _ ?_); cbv) | ((with_reducible refine hA.len _ _ _ _ _ fun z hz hb => ?_); cbv) | ((with_reducible refine hA.off _ _ _ _ fun b hb => ?_); cbv) | ((with_reducible refine hA.sapp _ _ _ ⟨?_, fun sl hsl => ?_⟩); rotate_left; cbv) | (simp only [hA.natLit, hA.natOf, hA.natCast]; cbv)
  all_goals try simp only [hA.add, hA.sub, hA.mul, hA.neg, hA.div, hA.mod, hA.mn, hA.mx, hA.eq, hA.lt, hA.le, hA.nat, hA.R, hA.lep, hA.ltp, hA.seq, inR, n_cast, Int.ofNat_eq_natCast, Option.getD_some, Option.getD_none] at *
  · have : l ≠ l' := fun e => by subst e; clear hr; grind
    rw [hr]; simp [this]
  · have hzz : es.length = fs.length := by clear hr; grind
    refine hA.loopI (fun n s => ∃ i : Int, 0 ≤ i ∧ n + i = l.length ∧ (∀ j : Nat, j < i → l[j]? = l'[j]?) ∧ s = ⟨[(5, .int i), (4, .bool false), (0, .e (.sl es)), (1, .e (.sl fs))], []⟩) l.length _ (Weak.keep (env' := [(5, .int 0), (4, .bool false), (0, .e (.sl es)), (1, .e (.sl fs))]) ⟨rfl, rfl, rfl, rfl, trivial⟩) ⟨0, by omega, by omega, fun j hj => by omega, rfl⟩ ?_
    rintro n s K ⟨i, h0, h1, h2, rfl⟩ hK
    by_cases hin : (0 : Int) ≤ i ∧ i < es.length
    · have hin2 : (0 : Int) ≤ i ∧ i < fs.length := by omega
      obtain ⟨r1, e1, q1⟩ := row_at he hin
      obtain ⟨r2, e2, q2⟩ := row_at hf hin2
      obtain ⟨x1, hx1⟩ : ∃ x, x = r1.map orow := ⟨_, rfl⟩
      have e1 : es.getD i.toNat [] = [E.sl x1] := e1.trans (by rw [hx1])
      obtain ⟨x2, hx2⟩ : ∃ x, x = r2.map orow := ⟨_, rfl⟩
      have e2 : fs.getD i.toNat [] = [E.sl x2] := e2.trans (by rw [hx2])
      have hc := ok184 r1 r2 x1 x2 hx1 hx2
      obtain ⟨c, hcc⟩ : ∃ c : Bool, c = decide ((r1 : List (Int × Int)) = r2) := ⟨_, rfl⟩
      rw [← hcc] at hc
      have c1 : c = false → r = false := fun e => by
        rw [hr, decide_eq_false_iff_not]
        intro e'
        subst e'
        rw [q1] at q2
        cases q2
        rw [e] at hcc
        simp at hcc
      have c2 : c = true → l[i.toNat]? = l'[i.toNat]? := fun e => by
        rw [e] at hcc
        rw [q1, q2, of_decide_eq_true hcc.symm]
      clear hcc hr
      cbv
      repeat' first | with_reducible rfl | with_reducible refine And.intro ?_ ?_ | ((with_reducible intro hcc); first | (cases hcc; done) | skip) | ((with_reducible show goC _ _ _ _ _ _ _ _); cbv) | ((with_reducible show goOps _ _ _ _ _); cbv) | ((with_reducible show goD _ _ _ _ _ _); cbv) | ((with_reducible show okWr _ _ = _); rfl) | ((with_reducible refine callK_eq hA hP ?_ ?_ ?_ (Wks.refl _) (fun _ _ => hc)); exact rfl; exact rfl; cbv) | ((with_reducible refine hA.row es _ _ ⟨hin, fun row hrow => ?_⟩); rw [e1] at hrow; subst hrow; cbv) | ((with_reducible refine hA.row fs _ _ ⟨hin2, fun row hrow => ?_⟩); rw [e2] at hrow; subst hrow; cbv) | ((with_reducible refine hA.fin_pl _ _ _ ?_); cbv) | ((with_reducible refine hA.len _ _ _ _ _ fun z hz hb => ?_); cbv) | ((with_reducible refine hA.off _ _ _ _ fun b hb => ?_); cbv) | ((with_reducible refine hA.sapp _ _ _ ⟨?_, fun sl hsl => ?_⟩); rotate_left; cbv) | (simp only [hA.natLit, hA.natOf, hA.natCast]; cbv)
      all_goals try simp only [hA.add, hA.sub, hA.mul, hA.neg, hA.div, hA.mod, hA.mn, hA.mx, hA.eq, hA.lt, hA.le, hA.nat, hA.R, hA.lep, hA.ltp, hA.seq, inR, n_cast, Int.ofNat_eq_natCast, Option.getD_some, Option.getD_none] at *
      all_goals first
        | omega
        | (refine hK _ (n - 1) _ (by omega) (Weak.gc (env' := [(5, .int (i + 1)), (4, .bool false), (0, .e (.sl es)), (1, .e (.sl fs))]) ⟨rfl, rfl, rfl, rfl, trivial⟩ rfl) ⟨i + 1, by omega, by omega, fun j hj => ?_, rfl⟩
           by_cases hji : (j : Int) < i
           · exact h2 j hji
           · have : j = i.toNat := by omega
             rw [this]
             exact c2 (by clear hK h2; grind))
        | (clear hK h2 he hf e1 e2; grind; done)
        | (trace_state; fail)
    · have hll : l = l' := by
        refine List.ext_getElem? fun j => ?_
        by_cases hj : (j : Int) < i
        · exact h2 j hj
        · rw [List.getElem?_eq_none (by omega), List.getElem?_eq_none (by omega)]
      have hr2 : r = true := by rw [hr, hll]; simp
      clear hr
      cbv
      repeat' first | with_reducible rfl | with_reducible refine And.intro ?_ ?_ | ((with_reducible intro hcc); first | (cases hcc; done) | skip) | ((with_reducible show goC _ _ _ _ _ _ _ _); cbv) | ((with_reducible show goOps _ _ _ _ _); cbv) | ((with_reducible show goD _ _ _ _ _ _); cbv) | ((with_reducible show okWr _ _ = _); rfl) | (exfalso; simp only [hA.lt, hA.sub, decide_eq_true_eq, decide_eq_false_iff_not, n_cast] at *; omega) | ((with_reducible refine hA.fin_pl _ _ _ ?_); cbv) | ((with_reducible refine hA.len _ _ _ _ _ fun z hz hb => ?_); cbv) | ((with_reducible refine hA.off _ _ _ _ fun b hb => ?_); cbv) | ((with_reducible refine hA.sapp _ _ _ ⟨?_, fun sl hsl => ?_⟩); rotate_left; cbv) | (simp only [hA.natLit, hA.natOf, hA.natCast]; cbv)
      all_goals try simp only [hA.add, hA.sub, hA.mul, hA.neg, hA.div, hA.mod, hA.mn, hA.mx, hA.eq, hA.lt, hA.le, hA.nat, hA.R, hA.lep, hA.ltp, hA.seq, inR, n_cast, Int.ofNat_eq_natCast, Option.getD_some, Option.getD_none] at *
      all_goals first
        | (rw [hr2])
        | omega
        | (clear hK h2 hll he hf; grind; done)
        | (trace_state; fail))
end Go.Proofs.Ytfplalbognalkaa.Ab
/- The laws' helpers over plans: measured, copied, alike. -/
namespace Go.Proofs.Ytfplalbognalkaa.Ab
open Go
def cPd (d : Pd) : Int := cO d.Ex + cOS d.Exs
theorem cPd_nonneg (d : Pd) : 0 ≤ cPd d := by have := cO_nonneg d.Ex; have := cOS_nonneg d.Exs; unfold cPd; omega
def cPS (ns : List Pd) : Int := ns.length + sumC cPd ns
set_option maxRecDepth 100000 in
theorem ok140 (K1 T1 M1 : Int) (Ex1 : List (Int × Int)) (Exs1 : List (List (Int × Int))) (L1 R1 : Int) (x1 y1 : List (List E)) (hx1 : x1 = Ex1.map orow) (hy1 : y1 = Exs1.map orr) (left : Int) (h : 0 ≤ left ∧ left ≤ 1048576) : Plain Try.prog 140 [.agg [.int K1, .int T1, .int M1, .e (.sl x1), .e (.sl y1), .int L1, .int R1], .int left] (.int (cut left (cPd ⟨K1, T1, M1, Ex1, Exs1, L1, R1⟩))) := okOf mixed p140 fun A P hA hP => (by
  obtain ⟨r, hr⟩ : ∃ r, r = cut left (cPd ⟨K1, T1, M1, Ex1, Exs1, L1, R1⟩) := ⟨_, rfl⟩
  rw [← hr]
  obtain ⟨c, hc⟩ : ∃ c, c = cO Ex1 := ⟨_, rfl⟩
  obtain ⟨b, hb⟩ : ∃ b, b = left - c := ⟨_, rfl⟩
  have hc0 : 0 ≤ c := hc ▸ cO_nonneg _
  have hs := cOS_nonneg Exs1
  have hr2 : r = if b - cOS Exs1 < 0 then -1 else b - cOS Exs1 := by
    rw [hr, cut]
    show (if left - (cO Ex1 + cOS Exs1) < 0 then (-1 : Int) else left - (cO Ex1 + cOS Exs1)) = _
    rw [← hc, show left - (c + cOS Exs1) = b - cOS Exs1 by omega]
  have h30 := ok172' Ex1 x1 hx1 left h
  rw [← hc] at h30
  obtain ⟨u, hu⟩ : ∃ u, u = cut left c := ⟨_, rfl⟩
  rw [← hu] at h30
  rw [cut, ← hb] at hu
  clear hr hc
  by_cases hb0 : b < 0
  · have hrr : r = -1 := by rw [hr2]; split <;> omega
    rw [if_pos hb0] at hu
    have e1 : A.lt u 0 = true := by rw [hA.lt]; exact decide_eq_true (by omega)
    cbv
    repeat' first | with_reducible rfl | (simp only [e1]; cbv) | with_reducible refine And.intro ?_ ?_ | ((with_reducible intro hcc); first | (cases hcc; done) | skip) | ((with_reducible show goC _ _ _ _ _ _ _ _); cbv) | ((with_reducible show goOps _ _ _ _ _); cbv) | ((with_reducible show goD _ _ _ _ _ _); cbv) | ((with_reducible show okWr _ _ = _); rfl) | ((with_reducible refine callK_eq hA hP ?_ ?_ ?_ (Wks.refl _) (fun _ _ => h30)); exact rfl; exact rfl; cbv) | ((with_reducible refine hA.fin_pl _ _ _ ?_); cbv) | (simp only [hA.natLit, hA.natOf, hA.natCast]; cbv)
    all_goals try simp only [hA.add, hA.sub, hA.mul, hA.neg, hA.div, hA.mod, hA.mn, hA.mx, hA.eq, hA.lt, hA.le, hA.nat, hA.R, hA.lep, hA.ltp, hA.seq, inR, n_cast, Int.ofNat_eq_natCast, Option.getD_some, Option.getD_none] at *
    all_goals first | omega | (rw [hrr]; done) | (trace_state; fail)
  · rw [if_neg hb0] at hu
    have e1 : A.lt u 0 = false := by rw [hA.lt]; exact decide_eq_false (by omega)
    have h311 : Plain Try.prog 173 [.e (.sl y1), .int u] (.int r) := by rw [hr2, hu]; exact ok173 Exs1 _ hy1 b (by omega)
    by_cases hr0 : r < 0
    · have e2 : A.lt r 0 = true := by rw [hA.lt]; exact decide_eq_true hr0
      have hrr : r = -1 := by rw [hr2] at hr0 ⊢; split at hr0 <;> split <;> omega
      cbv
      repeat' first | with_reducible rfl | (simp only [e2]; cbv) | (simp only [e1]; cbv) | with_reducible refine And.intro ?_ ?_ | ((with_reducible intro hcc); first | (cases hcc; done) | skip) | ((with_reducible show goC _ _ _ _ _ _ _ _); cbv) | ((with_reducible show goOps _ _ _ _ _); cbv) | ((with_reducible show goD _ _ _ _ _ _); cbv) | ((with_reducible show okWr _ _ = _); rfl) | ((with_reducible refine callK_eq hA hP ?_ ?_ ?_ (Wks.refl _) (fun _ _ => h30)); exact rfl; exact rfl; cbv) | ((with_reducible refine callK_eq hA hP ?_ ?_ ?_ (Wks.refl _) (fun _ _ => h311)); exact rfl; exact rfl; cbv) | ((with_reducible refine hA.fin_pl _ _ _ ?_); cbv) | (simp only [hA.natLit, hA.natOf, hA.natCast]; cbv)
      all_goals try simp only [hA.add, hA.sub, hA.mul, hA.neg, hA.div, hA.mod, hA.mn, hA.mx, hA.eq, hA.lt, hA.le, hA.nat, hA.R, hA.lep, hA.ltp, hA.seq, inR, n_cast, Int.ofNat_eq_natCast, Option.getD_some, Option.getD_none] at *
      all_goals first | omega | (rw [hrr]; done) | (trace_state; fail)
    · have e2 : A.lt r 0 = false := by rw [hA.lt]; exact decide_eq_false hr0
      cbv
      repeat' first | with_reducible rfl | (simp only [e2]; cbv) | (simp only [e1]; cbv) | with_reducible refine And.intro ?_ ?_ | ((with_reducible intro hcc); first | (cases hcc; done) | skip) | ((with_reducible show goC _ _ _ _ _ _ _ _); cbv) | ((with_reducible show goOps _ _ _ _ _); cbv) | ((with_reducible show goD _ _ _ _ _ _); cbv) | ((with_reducible show okWr _ _ = _); rfl) | ((with_reducible refine callK_eq hA hP ?_ ?_ ?_ (Wks.refl _) (fun _ _ => h30)); exact rfl; exact rfl; cbv) | ((with_reducible refine callK_eq hA hP ?_ ?_ ?_ (Wks.refl _) (fun _ _ => h311)); exact rfl; exact rfl; cbv) | ((with_reducible refine hA.fin_pl _ _ _ ?_); cbv) | (simp only [hA.natLit, hA.natOf, hA.natCast]; cbv)
      all_goals try simp only [hA.add, hA.sub, hA.mul, hA.neg, hA.div, hA.mod, hA.mn, hA.mx, hA.eq, hA.lt, hA.le, hA.nat, hA.R, hA.lep, hA.ltp, hA.seq, inR, n_cast, Int.ofNat_eq_natCast, Option.getD_some, Option.getD_none] at *
      all_goals first | omega | rfl | (trace_state; fail))
set_option maxRecDepth 100000 in
theorem ok80 (l : List (Pd)) (es : List (List E)) (he : es = l.map pdr) (left : Int) (h : 0 ≤ left ∧ left ≤ 1048576) : Plain Try.prog 80 [.e (.sl es), .int left] (.int (cut left (l.length + sumC cPd l))) := okOf mixed p80 fun A P hA hP => (by
  have hl1 : es.length = l.length := by rw [he]; simp
  have hsn : ∀ l : List (Pd), 0 ≤ sumC cPd l := sumC_nonneg cPd_nonneg
  obtain ⟨r, hr⟩ : ∃ r, r = cut left (l.length + sumC cPd l) := ⟨_, rfl⟩
  rw [← hr]
  have hr2 : r = cut (left - es.length) (sumC cPd l) := by rw [hr, hl1, cut, cut]; congr 1 <;> (try apply propext) <;> omega
  clear hr
  cbv
  repeat' first | with_reducible rfl | with_reducible refine And.intro ?_ ?_ | ((with_reducible intro hcc); first | (cases hcc; done) | skip) | ((with_reducible show goC _ _ _ _ _ _ _ _); cbv) | ((with_reducible show goOps _ _ _ _ _); cbv) | ((with_reducible show goD _ _ _ _ _ _); cbv) | ((with_reducible show okWr _ _ = _); rfl) | ((with_reducible refine hA.fin_pl _ _ _ ?_); cbv) | ((with_reducible refine hA.len _ _ _ _ _ fun z hz hb => ?_); cbv) | ((with_reducible refine hA.off _ _ _ _ fun b hb => ?_); cbv) | ((with_reducible refine hA.sapp _ _ _ ⟨?_, fun sl hsl => ?_⟩); rotate_left; cbv) | (simp only [hA.natLit, hA.natOf, hA.natCast]; cbv)
  all_goals try simp only [hA.add, hA.sub, hA.mul, hA.neg, hA.div, hA.mod, hA.mn, hA.mx, hA.eq, hA.lt, hA.le, hA.nat, hA.R, hA.lep, hA.ltp, hA.seq, inR, n_cast, Int.ofNat_eq_natCast, Option.getD_some, Option.getD_none] at *
  all_goals try (first | omega | (have := hb trivial trivial trivial; omega) | (have : r = -1 := (by simp only [decide_eq_true_eq] at *; have := hsn l; rw [hr2]; unfold cut; split <;> omega); rw [this]; done))
  · refine hA.loopI (fun n s => ∃ (i lf : Int), 0 ≤ i ∧ n + i = es.length ∧ 0 ≤ lf ∧ lf ≤ 1048576 ∧ r = cut lf (sumC cPd (l.drop i.toNat)) ∧
        s = ⟨[(5, .int i), (0, .e (.sl es)), (1, .int lf), (4, .int 0)], []⟩) es.length _
      (Weak.keep (env' := [(5, .int 0), (0, .e (.sl es)), (1, .int (left - z)), (4, .int 0)]) ⟨rfl, rfl, rfl, rfl, trivial⟩) ⟨0, left - z, by omega, by omega, by simp only [decide_eq_false_iff_not] at *; omega, by omega, (by rw [hr2, hz]; rfl), rfl⟩ ?_
    rintro n s K ⟨i, lf, h0, h1, h2, h3, h4, rfl⟩ hK
    clear hr2
    by_cases hin : (0 : Int) ≤ i ∧ i < es.length
    · obtain ⟨⟨K1, T1, M1, Ex1, Exs1, L1, R1⟩, e1, q1⟩ := row_at he hin
      obtain ⟨x1, hx1⟩ : ∃ x, x = Ex1.map orow := ⟨_, rfl⟩
      obtain ⟨y1, hy1⟩ : ∃ x, x = Exs1.map orr := ⟨_, rfl⟩
      have e1 : es.getD i.toNat [] = [E.int K1, E.int T1, E.int M1, E.sl x1, E.sl y1, E.int L1, E.int R1] := e1.trans (by rw [hx1, hy1])
      rw [sumC_drop q1] at h4
      obtain ⟨S, hS⟩ : ∃ S, S = sumC cPd (l.drop (i.toNat + 1)) := ⟨_, rfl⟩
      have hS0 : 0 ≤ S := hS ▸ hsn _
      obtain ⟨c, hcost⟩ : ∃ c, c = cPd ⟨K1, T1, M1, Ex1, Exs1, L1, R1⟩ := ⟨_, rfl⟩
      have hc0 : 0 ≤ c := hcost ▸ cPd_nonneg _
      have hc := ok140 K1 T1 M1 Ex1 Exs1 L1 R1 x1 y1 hx1 hy1 lf ⟨h2, h3⟩
      rw [← hS, ← hcost] at h4
      rw [← hcost] at hc
      obtain ⟨u, hu⟩ : ∃ u, u = cut lf c := ⟨_, rfl⟩
      rw [← hu] at hc
      have e8 : (i + 1).toNat = i.toNat + 1 := by omega
      have g1 : u < 0 → r = -1 := fun a => by rw [h4]; unfold cut at hu ⊢; split at hu <;> split <;> omega
      have g2 : 0 ≤ u → r = cut u S ∧ u ≤ lf := fun a => by
        have hu2 : u = lf - c := by rw [hu] at a ⊢; unfold cut at a ⊢; split at a <;> split <;> omega
        refine ⟨?_, by omega⟩
        rw [h4, hu2]
        unfold cut
        rw [show lf - (c + S) = lf - c - S by omega]
      clear h4 hu hcost
      cbv
      repeat' first | with_reducible rfl | with_reducible refine And.intro ?_ ?_ | ((with_reducible intro hcc); first | (cases hcc; done) | skip) | ((with_reducible show goC _ _ _ _ _ _ _ _); cbv) | ((with_reducible show goOps _ _ _ _ _); cbv) | ((with_reducible show goD _ _ _ _ _ _); cbv) | ((with_reducible show okWr _ _ = _); rfl) | ((with_reducible refine callK_eq hA hP ?_ ?_ ?_ (Wks.refl _) (fun _ _ => hc)); exact rfl; exact rfl; cbv) | ((with_reducible refine hA.row es _ _ ⟨hin, fun row hrow => ?_⟩); rw [e1] at hrow; subst hrow; cbv) | ((with_reducible refine hA.fin_pl _ _ _ ?_); cbv) | ((with_reducible refine hA.len _ _ _ _ _ fun z hz hb => ?_); cbv) | ((with_reducible refine hA.off _ _ _ _ fun b hb => ?_); cbv) | ((with_reducible refine hA.sapp _ _ _ ⟨?_, fun sl hsl => ?_⟩); rotate_left; cbv) | (simp only [hA.natLit, hA.natOf, hA.natCast]; cbv)
      all_goals try simp only [hA.add, hA.sub, hA.mul, hA.neg, hA.div, hA.mod, hA.mn, hA.mx, hA.eq, hA.lt, hA.le, hA.nat, hA.R, hA.lep, hA.ltp, hA.seq, inR, n_cast, Int.ofNat_eq_natCast, Option.getD_some, Option.getD_none] at *
      all_goals first
        | omega
        | (clear hK g1 g2 he; simp at *; omega)
        | (rw [g1 (by clear hK g2; simp at *; omega)]; done)
        | (have hu0 : 0 ≤ u := (by clear hK; simp at *; omega)
           exact hK _ (n - 1) _ (by omega) (Weak.keep (env' := [(5, .int (i + 1)), (0, .e (.sl es)), (1, .int u), (4, .int 0)]) ⟨rfl, rfl, rfl, rfl, trivial⟩) ⟨i + 1, u, by omega, by omega, hu0, by have := (g2 hu0).2; omega, by rw [e8, ← hS]; exact (g2 hu0).1, rfl⟩)
        | (clear hK g1 g2 he; simp at *; omega)
        | (trace_state; fail)
    · have hd : l.drop i.toNat = [] := by rw [List.drop_eq_nil_iff]; omega
      rw [hd] at h4
      have h5 : r = lf := by rw [h4, sumC, cut, if_neg (by omega)]; omega
      clear h4 hK
      cbv
      repeat' first | with_reducible rfl | with_reducible refine And.intro ?_ ?_ | ((with_reducible intro hcc); first | (cases hcc; done) | skip) | ((with_reducible show goC _ _ _ _ _ _ _ _); cbv) | ((with_reducible show goOps _ _ _ _ _); cbv) | ((with_reducible show goD _ _ _ _ _ _); cbv) | ((with_reducible show okWr _ _ = _); rfl) | (exfalso; simp only [hA.lt, hA.sub, decide_eq_true_eq, decide_eq_false_iff_not, n_cast] at *; omega) | ((with_reducible refine hA.fin_pl _ _ _ ?_); cbv) | ((with_reducible refine hA.len _ _ _ _ _ fun z hz hb => ?_); cbv) | ((with_reducible refine hA.off _ _ _ _ fun b hb => ?_); cbv) | ((with_reducible refine hA.sapp _ _ _ ⟨?_, fun sl hsl => ?_⟩); rotate_left; cbv) | (simp only [hA.natLit, hA.natOf, hA.natCast]; cbv)
      all_goals try simp only [hA.add, hA.sub, hA.mul, hA.neg, hA.div, hA.mod, hA.mn, hA.mx, hA.eq, hA.lt, hA.le, hA.nat, hA.R, hA.lep, hA.ltp, hA.seq, inR, n_cast, Int.ofNat_eq_natCast, Option.getD_some, Option.getD_none] at *
      all_goals first
        | (rw [h5])
        | omega
        | (clear he; simp at *; omega)
        | (trace_state; fail))
theorem ok35 (ns : List Pd) (x : List (List E)) (hx : x = ns.map pdr) (left : Int) (h : 0 ≤ left ∧ left ≤ 1048576) : Plain Try.prog 35 [.agg [.e (.sl x)], .int left] (.int (cut left (cPS ns))) := okOf mixed p35 fun A P hA hP => (by
  have h241 : Plain Try.prog 80 [.e (.sl x), .int left] (.int (cut left (cPS ns))) := ok80 ns _ hx left h
  obtain ⟨u, hu⟩ : ∃ u, u = cut left (cPS ns) := ⟨_, rfl⟩
  rw [← hu] at h241 ⊢
  have hu2 : u < 0 → u = -1 := fun a => by rw [hu, cut] at a ⊢; split at a <;> split <;> omega
  clear hu
  cbv
  repeat' first | with_reducible rfl | with_reducible refine And.intro ?_ ?_ | ((with_reducible intro hcc); first | (cases hcc; done) | skip) | ((with_reducible show goC _ _ _ _ _ _ _ _); cbv) | ((with_reducible show goOps _ _ _ _ _); cbv) | ((with_reducible show goD _ _ _ _ _ _); cbv) | ((with_reducible show okWr _ _ = _); rfl) | ((with_reducible refine callK_eq hA hP ?_ ?_ ?_ (Wks.refl _) (fun _ _ => h241)); exact rfl; exact rfl; cbv) | ((with_reducible refine hA.fin_pl _ _ _ ?_); cbv) | (simp only [hA.natLit, hA.natOf, hA.natCast]; cbv)
  all_goals try simp only [hA.add, hA.sub, hA.mul, hA.neg, hA.div, hA.mod, hA.mn, hA.mx, hA.eq, hA.lt, hA.le, hA.nat, hA.R, hA.lep, hA.ltp, hA.seq, inR, n_cast, Int.ofNat_eq_natCast, Option.getD_some, Option.getD_none] at *
  all_goals first | rfl | omega | (rw [hu2 (by simp at *; omega)]) | (trace_state; fail))
set_option maxRecDepth 100000 in
theorem ok145 (K1 T1 M1 : Int) (Ex1 : List (Int × Int)) (Exs1 : List (List (Int × Int))) (L1 R1 : Int) (x1 y1 : List (List E)) (hx1 : x1 = Ex1.map orow) (hy1 : y1 = Exs1.map orr) (h1 : Ex1.length ≤ 1048576) (h2 : Exs1.length ≤ 1048576) (h3 : ∀ e ∈ Exs1, e.length ≤ 1048576) : Plain Try.prog 145 [.agg [.int K1, .int T1, .int M1, .e (.sl x1), .e (.sl y1), .int L1, .int R1]] (.agg [.int K1, .int T1, .int M1, .e (.sl x1), .e (.sl y1), .int L1, .int R1]) := okOf mixed p145 fun A P hA hP => (by
  have h32 := ok176 Ex1 x1 hx1 (by rw [hx1, List.length_map]; exact h1)
  have h314 := ok177 Exs1 y1 hy1 (by rw [hy1, List.length_map]; exact h2) h3
  cbv
  repeat' first | with_reducible rfl | with_reducible refine And.intro ?_ ?_ | ((with_reducible intro hcc); first | (cases hcc; done) | skip) | ((with_reducible show goC _ _ _ _ _ _ _ _); cbv) | ((with_reducible show goOps _ _ _ _ _); cbv) | ((with_reducible show goD _ _ _ _ _ _); cbv) | ((with_reducible show okWr _ _ = _); rfl) | ((with_reducible refine callK_eq hA hP ?_ ?_ ?_ (Wks.refl _) (fun _ _ => h32)); exact rfl; exact rfl; cbv) | ((with_reducible refine callK_eq hA hP ?_ ?_ ?_ (Wks.refl _) (fun _ _ => h314)); exact rfl; exact rfl; cbv) | ((with_reducible refine hA.fin_pl _ _ _ ?_); cbv) | ((with_reducible refine hA.st _ _ _ _ _ ⟨?_, fun ds hds => ?_⟩); rotate_left; cbv) | (simp only [hA.natLit, hA.natOf, hA.natCast]; cbv)
  all_goals try simp only [hA.add, hA.sub, hA.mul, hA.neg, hA.div, hA.mod, hA.mn, hA.mx, hA.eq, hA.lt, hA.le, hA.nat, hA.R, hA.lep, hA.ltp, hA.seq, inR, n_cast, Int.ofNat_eq_natCast, Option.getD_some, Option.getD_none] at *
  )
set_option maxRecDepth 100000 in
set_option maxHeartbeats 1000000 in
theorem ok83 (l : List (Pd)) (es : List (List E)) (he : es = l.map pdr) (hlen : es.length ≤ 1048576) (hb2 : ∀ d ∈ l, d.Ex.length ≤ 1048576 ∧ d.Exs.length ≤ 1048576 ∧ ∀ e ∈ d.Exs, e.length ≤ 1048576) : Plain Try.prog 83 [.e (.sl es)] (.e (.sl es)) := okOf mixed p83 fun A P hA hP => (by
  have hl1 : es.length = l.length := by rw [he]; simp
  have hes : ∀ e ∈ es, e.length = 7 := by
    rw [he]
    intro e h
    obtain ⟨p, _, rfl⟩ := List.mem_map.1 h
    rfl
  cbv
  repeat' first | with_reducible rfl | with_reducible refine And.intro ?_ ?_ | ((with_reducible intro hcc); first | (cases hcc; done) | skip) | ((with_reducible show goC _ _ _ _ _ _ _ _); cbv) | ((with_reducible show goOps _ _ _ _ _); cbv) | ((with_reducible show goD _ _ _ _ _ _); cbv) | ((with_reducible show okWr _ _ = _); rfl) | ((with_reducible refine hA.fin_pl _ _ _ ?_); cbv) | ((with_reducible refine hA.len _ _ _ _ _ fun z hz hb => ?_); cbv) | ((with_reducible refine hA.off _ _ _ _ fun b hb => ?_); cbv) | ((with_reducible refine hA.rep _ _ _ fun ds m hds hm => ?_); cbv) | ((with_reducible refine hA.st _ _ _ _ _ ⟨?_, fun ds hds => ?_⟩); rotate_left; cbv) | ((with_reducible refine hA.alt _ _ (Or.inl ?_)); cbv) | ((with_reducible refine hA.sapp _ _ _ ⟨?_, fun sl hsl => ?_⟩); rotate_left; cbv) | (simp only [hA.natLit, hA.natOf, hA.natCast]; cbv)
  all_goals try simp only [hA.add, hA.sub, hA.mul, hA.neg, hA.div, hA.mod, hA.mn, hA.mx, hA.eq, hA.lt, hA.le, hA.nat, hA.R, hA.lep, hA.ltp, hA.seq, inR, n_cast, Int.ofNat_eq_natCast, Option.getD_some, Option.getD_none] at *
  · omega
  · omega
  · refine hA.loopI (fun n s => ∃ (i : Int) (xs : List (List E)), 0 ≤ i ∧ n + i = es.length ∧ xs.length = es.length ∧ (∀ e ∈ xs, e.length = 7) ∧ (∀ j : Nat, j < i → xs[j]? = es[j]?) ∧
        s = ⟨[(4, .int i), (3, .bs 0 0 m 7), (2, .zs), (0, .e (.sl es))], [.box (xs.flatten.map .e)]⟩) es.length _
      (Weak.keep (env' := [(4, .int 0), (3, .bs 0 0 m 7), (2, .zs), (0, .e (.sl es))]) ⟨rfl, rfl, rfl, rfl, trivial⟩)
      ⟨0, List.replicate m [E.int 0, E.int 0, E.int 0, E.sl [], E.sl [], E.int 0, E.int 0], by omega, by omega, by simp; omega, by simp, fun j hj => by omega, by rw [← buf_zero, hm]; rw [hds]; rfl⟩ ?_
    rintro n s K ⟨i, xs, h0, h1, h2, h3, h4, rfl⟩ hK
    obtain ⟨ys, hys⟩ : ∃ ys, ys = xs.flatten.map D.e := ⟨_, rfl⟩
    have hyl : ys.length = xs.length * 7 := by rw [hys, List.length_map, flatten_len h3]
    rw [← hys]
    by_cases hin : (0 : Int) ≤ i ∧ i < es.length
    · obtain ⟨⟨K1, T1, M1, Ex1, Exs1, L1, R1⟩, e1, q1⟩ := row_at he hin
      obtain ⟨x1, hx1⟩ : ∃ x, x = Ex1.map orow := ⟨_, rfl⟩
      obtain ⟨y1, hy1⟩ : ∃ x, x = Exs1.map orr := ⟨_, rfl⟩
      have e1 : es.getD i.toNat [] = [E.int K1, E.int T1, E.int M1, E.sl x1, E.sl y1, E.int L1, E.int R1] := e1.trans (by rw [hx1, hy1])
      have hc := ok145 K1 T1 M1 Ex1 Exs1 L1 R1 x1 y1 hx1 hy1 (hb2 _ (List.mem_of_getElem? q1)).1 (hb2 _ (List.mem_of_getElem? q1)).2.1 (hb2 _ (List.mem_of_getElem? q1)).2.2
      have hrow0 : es[i.toNat]? = some (es.getD i.toNat []) := by
        have : i.toNat < es.length := by omega
        simp [List.getD, this]
      have hrl : (es.getD i.toNat []).length = 7 := hes _ (List.mem_of_getElem? hrow0)
      cbv
      repeat' first | with_reducible rfl | with_reducible refine And.intro ?_ ?_ | ((with_reducible intro hcc); first | (cases hcc; done) | skip) | ((with_reducible show goC _ _ _ _ _ _ _ _); cbv) | ((with_reducible show goOps _ _ _ _ _); cbv) | ((with_reducible show goD _ _ _ _ _ _); cbv) | ((with_reducible show okWr _ _ = _); rfl) | ((with_reducible refine callK_eq hA hP ?_ ?_ ?_ (Wks.refl _) (fun _ _ => hc)); exact rfl; exact rfl; cbv) | ((with_reducible refine hA.row es _ _ ⟨hin, fun row hrow => ?_⟩); rw [e1] at hrow; subst hrow; cbv) | ((with_reducible refine hA.fin_pl _ _ _ ?_); cbv) | ((with_reducible refine hA.len _ _ _ _ _ fun z hz hb => ?_); cbv) | ((with_reducible refine hA.off _ _ _ _ fun b hb => ?_); cbv) | ((with_reducible refine hA.rep _ _ _ fun ds m hds hm => ?_); cbv) | ((with_reducible refine hA.st _ _ _ _ _ ⟨?_, fun ds hds => ?_⟩); rotate_left; cbv) | ((with_reducible refine hA.alt _ _ (Or.inl ?_)); cbv) | ((with_reducible refine hA.sapp _ _ _ ⟨?_, fun sl hsl => ?_⟩); rotate_left; cbv) | (simp only [hA.natLit, hA.natOf, hA.natCast]; cbv)
      all_goals try simp only [hA.add, hA.sub, hA.mul, hA.neg, hA.div, hA.mod, hA.mn, hA.mx, hA.eq, hA.lt, hA.le, hA.nat, hA.R, hA.lep, hA.ltp, hA.seq, inR, n_cast, Int.ofNat_eq_natCast, Option.getD_some, Option.getD_none] at *
      all_goals first
        | (show _ < (m : Int); omega)
        | omega
        | (clear hK h4 he; grind; done)
        | (have hb' : b = i.toNat * 7 := by omega
           refine hK _ (n - 1) _ (by omega) (Weak.keep (env' := [(4, .int (i + 1)), (3, .bs 0 0 m 7), (2, .zs), (0, .e (.sl es))]) ⟨rfl, rfl, rfl, rfl, trivial⟩)
             ⟨i + 1, xs.set i.toNat (es.getD i.toNat []), by omega, by omega, by simp [h2], fun e h => ?_, fun j hj => ?_, ?_⟩
           · rcases List.mem_or_eq_of_mem_set h with h | rfl
             · exact h3 e h
             · exact hrl
           · by_cases hji : (j : Int) < i
             · rw [List.getElem?_set_ne (show i.toNat ≠ j by omega)]; exact h4 j hji
             · have : j = i.toNat := by omega
               subst this
               rw [List.getElem?_set_self (show i.toNat < xs.length by omega), hrow0]
           · congr 2
             rw [hds, hys, hb']
             congr 1
             have q := buf_set (k := 7) (by omega) h3 (i := i.toNat) (show i.toNat < xs.length by omega) hrl
             rw [e1] at q ⊢
             exact q)
    · have hxe : xs = es := by
        refine List.ext_getElem? fun j => ?_
        by_cases hj : (j : Int) < i
        · exact h4 j hj
        · rw [List.getElem?_eq_none (by omega), List.getElem?_eq_none (by omega)]
      cbv
      repeat' first | with_reducible rfl | with_reducible refine And.intro ?_ ?_ | ((with_reducible intro hcc); first | (cases hcc; done) | skip) | ((with_reducible show goC _ _ _ _ _ _ _ _); cbv) | ((with_reducible show goOps _ _ _ _ _); cbv) | ((with_reducible show goD _ _ _ _ _ _); cbv) | ((with_reducible show okWr _ _ = _); rfl) | (exfalso; simp only [hA.lt, hA.sub, decide_eq_true_eq, decide_eq_false_iff_not, n_cast] at *; omega) | ((with_reducible refine hA.fin_bs (es := es) ?_ ?_ hes)) | ((with_reducible refine hA.fin_pl _ _ _ ?_); cbv) | ((with_reducible refine hA.len _ _ _ _ _ fun z hz hb => ?_); cbv) | ((with_reducible refine hA.off _ _ _ _ fun b hb => ?_); cbv) | ((with_reducible refine hA.rep _ _ _ fun ds m hds hm => ?_); cbv) | ((with_reducible refine hA.st _ _ _ _ _ ⟨?_, fun ds hds => ?_⟩); rotate_left; cbv) | ((with_reducible refine hA.alt _ _ (Or.inl ?_)); cbv) | ((with_reducible refine hA.sapp _ _ _ ⟨?_, fun sl hsl => ?_⟩); rotate_left; cbv) | (simp only [hA.natLit, hA.natOf, hA.natCast]; cbv)
      all_goals try simp only [hA.add, hA.sub, hA.mul, hA.neg, hA.div, hA.mod, hA.mn, hA.mx, hA.eq, hA.lt, hA.le, hA.nat, hA.R, hA.lep, hA.ltp, hA.seq, inR, n_cast, Int.ofNat_eq_natCast, Option.getD_some, Option.getD_none] at *
      all_goals first
        | (rw [hys, hxe]; rfl)
        | omega
        | (clear hK h4 he; grind; done)
        | (trace_state; fail))
theorem ok37 (ns : List Pd) (x : List (List E)) (hx : x = ns.map pdr) (h1 : ns.length ≤ 1048576) (h2 : ∀ d ∈ ns, d.Ex.length ≤ 1048576 ∧ d.Exs.length ≤ 1048576 ∧ ∀ e ∈ d.Exs, e.length ≤ 1048576) : Plain Try.prog 37 [.agg [.e (.sl x)]] (.agg [.e (.sl x)]) := okOf mixed p37 fun A P hA hP => (by
  have h244 := ok83 ns x hx (by rw [hx, List.length_map]; exact h1) h2
  cbv
  repeat' first | with_reducible rfl | with_reducible refine And.intro ?_ ?_ | ((with_reducible intro hcc); first | (cases hcc; done) | skip) | ((with_reducible show goC _ _ _ _ _ _ _ _); cbv) | ((with_reducible show goOps _ _ _ _ _); cbv) | ((with_reducible show goD _ _ _ _ _ _); cbv) | ((with_reducible show okWr _ _ = _); rfl) | ((with_reducible refine callK_eq hA hP ?_ ?_ ?_ (Wks.refl _) (fun _ _ => h244)); exact rfl; exact rfl; cbv) | ((with_reducible refine hA.fin_pl _ _ _ ?_); cbv) | ((with_reducible refine hA.st _ _ _ _ _ ⟨?_, fun ds hds => ?_⟩); rotate_left; cbv) | (simp only [hA.natLit, hA.natOf, hA.natCast]; cbv)
  all_goals try simp only [hA.add, hA.sub, hA.mul, hA.neg, hA.div, hA.mod, hA.mn, hA.mx, hA.eq, hA.lt, hA.le, hA.nat, hA.R, hA.lep, hA.ltp, hA.seq, inR, n_cast, Int.ofNat_eq_natCast, Option.getD_some, Option.getD_none] at *
  )
set_option maxRecDepth 100000 in
theorem ok148 (K1 T1 M1 : Int) (Ex1 : List (Int × Int)) (Exs1 : List (List (Int × Int))) (L1 R1 : Int) (x1 y1 : List (List E)) (hx1 : x1 = Ex1.map orow) (hy1 : y1 = Exs1.map orr) (K2 T2 M2 : Int) (Ex2 : List (Int × Int)) (Exs2 : List (List (Int × Int))) (L2 R2 : Int) (x2 y2 : List (List E)) (hx2 : x2 = Ex2.map orow) (hy2 : y2 = Exs2.map orr) :
    Plain Try.prog 148 [.agg [.int K1, .int T1, .int M1, .e (.sl x1), .e (.sl y1), .int L1, .int R1], .agg [.int K2, .int T2, .int M2, .e (.sl x2), .e (.sl y2), .int L2, .int R2]] (.bool (decide ((⟨K1, T1, M1, Ex1, Exs1, L1, R1⟩ : Pd) = ⟨K2, T2, M2, Ex2, Exs2, L2, R2⟩))) := okOf mixed p148 fun A P hA hP => (by
  have h34 := ok184 Ex1 Ex2 x1 x2 hx1 hx2
  have h320 := ok185 Exs1 Exs2 y1 y2 hy1 hy2
  obtain ⟨c, hc⟩ : ∃ c, c = decide (Ex1 = Ex2) := ⟨_, rfl⟩
  rw [← hc] at h34
  obtain ⟨d, hd⟩ : ∃ c, c = decide (Exs1 = Exs2) := ⟨_, rfl⟩
  rw [← hd] at h320
  obtain ⟨r, hr⟩ : ∃ r, r = decide ((⟨K1, T1, M1, Ex1, Exs1, L1, R1⟩ : Pd) = ⟨K2, T2, M2, Ex2, Exs2, L2, R2⟩) := ⟨_, rfl⟩
  rw [← hr]
  have hr2 : r = (decide (K1 = K2) && (decide (T1 = T2) && (decide (M1 = M2) && ((c && (d && (decide (L1 = L2) && decide (R1 = R2)))))))) := by rw [hr, hc, hd]; simp
  clear hr hc hd
  cbv
  repeat' first | with_reducible rfl | with_reducible refine And.intro ?_ ?_ | ((with_reducible intro hcc); first | (cases hcc; done) | skip) | ((with_reducible show goC _ _ _ _ _ _ _ _); cbv) | ((with_reducible show goOps _ _ _ _ _); cbv) | ((with_reducible show goD _ _ _ _ _ _); cbv) | ((with_reducible show okWr _ _ = _); rfl) | ((with_reducible refine callK_eq hA hP ?_ ?_ ?_ (Wks.refl _) (fun _ _ => h34)); exact rfl; exact rfl; cbv) | ((with_reducible refine callK_eq hA hP ?_ ?_ ?_ (Wks.refl _) (fun _ _ => h320)); exact rfl; exact rfl; cbv) | ((with_reducible refine hA.fin_pl _ _ _ ?_); cbv) | (simp only [hA.natLit, hA.natOf, hA.natCast]; cbv)
  all_goals try simp only [hA.add, hA.sub, hA.mul, hA.neg, hA.div, hA.mod, hA.mn, hA.mx, hA.eq, hA.lt, hA.le, hA.nat, hA.R, hA.lep, hA.ltp, hA.seq, inR, n_cast, Int.ofNat_eq_natCast, Option.getD_some, Option.getD_none] at *
  all_goals first | rfl | (clear h34 h320; grind; done) | (clear h34 h320; simp at *; grind; done) | (trace_state; fail))
set_option maxRecDepth 100000 in
theorem ok85 (l l' : List (Pd)) (es fs : List (List E)) (he : es = l.map pdr) (hf : fs = l'.map pdr) : Plain Try.prog 85 [.e (.sl es), .e (.sl fs)] (.bool (decide (l = l'))) := okOf mixed p85 fun A P hA hP => (by
  obtain ⟨r, hr⟩ : ∃ r : Bool, r = decide (l = l') := ⟨_, rfl⟩
  rw [← hr]
  have hl1 : es.length = l.length := by rw [he]; simp
  have hl2 : fs.length = l'.length := by rw [hf]; simp
  cbv
  repeat' first | with_reducible rfl | with_reducible refine And.intro ?_ ?_ | ((with_reducible intro hcc); first | (cases hcc; done) | skip) | ((with_reducible show goC _ _ _ _ _ _ _ _); cbv) | ((with_reducible show goOps _ _ _ _ _); cbv) | ((with_reducible show goD _ _ _ _ _ _); cbv) | ((with_reducible show okWr _ _ = _); rfl) | ((with_reducible refine hA.fin_pl _ _ _ ?_); cbv) | ((with_reducible refine hA.len _ _ _ _ _ fun z hz hb => ?_); cbv) | ((with_reducible refine hA.off _ _ _ _ fun b hb => ?_); cbv) | ((with_reducible refine hA.sapp _ _ _ ⟨?_, fun sl hsl => ?_⟩); rotate_left; cbv) | (simp only [hA.natLit, hA.natOf, hA.natCast]; cbv)
  all_goals try simp only [hA.add, hA.sub, hA.mul, hA.neg, hA.div, hA.mod, hA.mn, hA.mx, hA.eq, hA.lt, hA.le, hA.nat, hA.R, hA.lep, hA.ltp, hA.seq, inR, n_cast, Int.ofNat_eq_natCast, Option.getD_some, Option.getD_none] at *
  · have : l ≠ l' := fun e => by subst e; clear hr; grind
    rw [hr]; simp [this]
  · have hzz : es.length = fs.length := by clear hr; grind
    refine hA.loopI (fun n s => ∃ i : Int, 0 ≤ i ∧ n + i = l.length ∧ (∀ j : Nat, j < i → l[j]? = l'[j]?) ∧ s = ⟨[(5, .int i), (4, .bool false), (0, .e (.sl es)), (1, .e (.sl fs))], []⟩) l.length _ (Weak.keep (env' := [(5, .int 0), (4, .bool false), (0, .e (.sl es)), (1, .e (.sl fs))]) ⟨rfl, rfl, rfl, rfl, trivial⟩) ⟨0, by omega, by omega, fun j hj => by omega, rfl⟩ ?_
    rintro n s K ⟨i, h0, h1, h2, rfl⟩ hK
    by_cases hin : (0 : Int) ≤ i ∧ i < es.length
    · have hin2 : (0 : Int) ≤ i ∧ i < fs.length := by omega
      obtain ⟨⟨K1, T1, M1, Ex1, Exs1, L1, R1⟩, e1, q1⟩ := row_at he hin
      obtain ⟨⟨K2, T2, M2, Ex2, Exs2, L2, R2⟩, e2, q2⟩ := row_at hf hin2
      obtain ⟨x1, hx1⟩ : ∃ x, x = Ex1.map orow := ⟨_, rfl⟩
      obtain ⟨y1, hy1⟩ : ∃ x, x = Exs1.map orr := ⟨_, rfl⟩
      have e1 : es.getD i.toNat [] = [E.int K1, E.int T1, E.int M1, E.sl x1, E.sl y1, E.int L1, E.int R1] := e1.trans (by rw [hx1, hy1])
      obtain ⟨x2, hx2⟩ : ∃ x, x = Ex2.map orow := ⟨_, rfl⟩
      obtain ⟨y2, hy2⟩ : ∃ x, x = Exs2.map orr := ⟨_, rfl⟩
      have e2 : fs.getD i.toNat [] = [E.int K2, E.int T2, E.int M2, E.sl x2, E.sl y2, E.int L2, E.int R2] := e2.trans (by rw [hx2, hy2])
      have hc := ok148 K1 T1 M1 Ex1 Exs1 L1 R1 x1 y1 hx1 hy1 K2 T2 M2 Ex2 Exs2 L2 R2 x2 y2 hx2 hy2
      obtain ⟨c, hcc⟩ : ∃ c : Bool, c = decide ((⟨K1, T1, M1, Ex1, Exs1, L1, R1⟩ : Pd) = ⟨K2, T2, M2, Ex2, Exs2, L2, R2⟩) := ⟨_, rfl⟩
      rw [← hcc] at hc
      have c1 : c = false → r = false := fun e => by
        rw [hr, decide_eq_false_iff_not]
        intro e'
        subst e'
        rw [q1] at q2
        cases q2
        rw [e] at hcc
        simp at hcc
      have c2 : c = true → l[i.toNat]? = l'[i.toNat]? := fun e => by
        rw [e] at hcc
        rw [q1, q2, of_decide_eq_true hcc.symm]
      clear hcc hr
      cbv
      repeat' first | with_reducible rfl | with_reducible refine And.intro ?_ ?_ | ((with_reducible intro hcc); first | (cases hcc; done) | skip) | ((with_reducible show goC _ _ _ _ _ _ _ _); cbv) | ((with_reducible show goOps _ _ _ _ _); cbv) | ((with_reducible show goD _ _ _ _ _ _); cbv) | ((with_reducible show okWr _ _ = _); rfl) | ((with_reducible refine callK_eq hA hP ?_ ?_ ?_ (Wks.refl _) (fun _ _ => hc)); exact rfl; exact rfl; cbv) | ((with_reducible refine hA.row es _ _ ⟨hin, fun row hrow => ?_⟩); rw [e1] at hrow; subst hrow; cbv) | ((with_reducible refine hA.row fs _ _ ⟨hin2, fun row hrow => ?_⟩); rw [e2] at hrow; subst hrow; cbv) | ((with_reducible refine hA.fin_pl _ _ _ ?_); cbv) | ((with_reducible refine hA.len _ _ _ _ _ fun z hz hb => ?_); cbv) | ((with_reducible refine hA.off _ _ _ _ fun b hb => ?_); cbv) | ((with_reducible refine hA.sapp _ _ _ ⟨?_, fun sl hsl => ?_⟩); rotate_left; cbv) | (simp only [hA.natLit, hA.natOf, hA.natCast]; cbv)
      all_goals try simp only [hA.add, hA.sub, hA.mul, hA.neg, hA.div, hA.mod, hA.mn, hA.mx, hA.eq, hA.lt, hA.le, hA.nat, hA.R, hA.lep, hA.ltp, hA.seq, inR, n_cast, Int.ofNat_eq_natCast, Option.getD_some, Option.getD_none] at *
      all_goals first
        | omega
        | (refine hK _ (n - 1) _ (by omega) (Weak.gc (env' := [(5, .int (i + 1)), (4, .bool false), (0, .e (.sl es)), (1, .e (.sl fs))]) ⟨rfl, rfl, rfl, rfl, trivial⟩ rfl) ⟨i + 1, by omega, by omega, fun j hj => ?_, rfl⟩
           by_cases hji : (j : Int) < i
           · exact h2 j hji
           · have : j = i.toNat := by omega
             rw [this]
             exact c2 (by clear hK h2; grind))
        | (clear hK h2 he hf e1 e2; grind; done)
        | (trace_state; fail)
    · have hll : l = l' := by
        refine List.ext_getElem? fun j => ?_
        by_cases hj : (j : Int) < i
        · exact h2 j hj
        · rw [List.getElem?_eq_none (by omega), List.getElem?_eq_none (by omega)]
      have hr2 : r = true := by rw [hr, hll]; simp
      clear hr
      cbv
      repeat' first | with_reducible rfl | with_reducible refine And.intro ?_ ?_ | ((with_reducible intro hcc); first | (cases hcc; done) | skip) | ((with_reducible show goC _ _ _ _ _ _ _ _); cbv) | ((with_reducible show goOps _ _ _ _ _); cbv) | ((with_reducible show goD _ _ _ _ _ _); cbv) | ((with_reducible show okWr _ _ = _); rfl) | (exfalso; simp only [hA.lt, hA.sub, decide_eq_true_eq, decide_eq_false_iff_not, n_cast] at *; omega) | ((with_reducible refine hA.fin_pl _ _ _ ?_); cbv) | ((with_reducible refine hA.len _ _ _ _ _ fun z hz hb => ?_); cbv) | ((with_reducible refine hA.off _ _ _ _ fun b hb => ?_); cbv) | ((with_reducible refine hA.sapp _ _ _ ⟨?_, fun sl hsl => ?_⟩); rotate_left; cbv) | (simp only [hA.natLit, hA.natOf, hA.natCast]; cbv)
      all_goals try simp only [hA.add, hA.sub, hA.mul, hA.neg, hA.div, hA.mod, hA.mn, hA.mx, hA.eq, hA.lt, hA.le, hA.nat, hA.R, hA.lep, hA.ltp, hA.seq, inR, n_cast, Int.ofNat_eq_natCast, Option.getD_some, Option.getD_none] at *
      all_goals first
        | (rw [hr2])
        | omega
        | (clear hK h2 hll he hf; grind; done)
        | (trace_state; fail))
theorem ok39 (ns ns' : List Pd) (x x' : List (List E)) (hx : x = ns.map pdr) (hx' : x' = ns'.map pdr) : Plain Try.prog 39 [.agg [.e (.sl x)], .agg [.e (.sl x')]] (.bool (decide (ns = ns'))) := okOf mixed p39 fun A P hA hP => (by
  have h246 := ok85 ns ns' x x' hx hx'
  obtain ⟨c, hc⟩ : ∃ c, c = decide (ns = ns') := ⟨_, rfl⟩
  rw [← hc] at h246 ⊢
  cases c
  all_goals
    cbv
    repeat' first | with_reducible rfl | with_reducible refine And.intro ?_ ?_ | ((with_reducible intro hcc); first | (cases hcc; done) | skip) | ((with_reducible show goC _ _ _ _ _ _ _ _); cbv) | ((with_reducible show goOps _ _ _ _ _); cbv) | ((with_reducible show goD _ _ _ _ _ _); cbv) | ((with_reducible show okWr _ _ = _); rfl) | ((with_reducible refine callK_eq hA hP ?_ ?_ ?_ (Wks.refl _) (fun _ _ => h246)); exact rfl; exact rfl; cbv) | ((with_reducible refine hA.fin_pl _ _ _ ?_); cbv) | (simp only [hA.natLit, hA.natOf, hA.natCast]; cbv)
    all_goals try simp only [hA.add, hA.sub, hA.mul, hA.neg, hA.div, hA.mod, hA.mn, hA.mx, hA.eq, hA.lt, hA.le, hA.nat, hA.R, hA.lep, hA.ltp, hA.seq, inR, n_cast, Int.ofNat_eq_natCast, Option.getD_some, Option.getD_none] at *
    all_goals first | rfl | trivial | (trace_state; fail))
end Go.Proofs.Ytfplalbognalkaa.Ab
/- Sizes of tables. -/
namespace Go.Proofs.Ytfplalbognalkaa.Ab
open Go
theorem sz_in' {ts : List Tb} (h : cTS ts ≤ 1048576) : ts.length ≤ 1048576 ∧ ∀ t ∈ ts, t.2.2.length ≤ 1048576 ∧ ∀ r ∈ t.2.2, r.length ≤ 1048576 := by
  have h0 := sumC_nonneg cT_nonneg ts
  refine ⟨by unfold cTS at h; omega, fun t ht => ?_⟩
  have h1 := sz_row ht
  have h2 := sumC_nonneg cV_nonneg t.2.2
  unfold cT cSS at h1
  refine ⟨by omega, fun r hr => ?_⟩
  have h3 : (r.length : Int) ≤ _ := sumC_mem cV_nonneg hr
  omega
end Go.Proofs.Ytfplalbognalkaa.Ab
/- The law of PlanOk. -/
namespace Go.Proofs.Ytfplalbognalkaa.Ab
open Go
theorem plan_in {ns : List Pd} (h : cPS ns ≤ 1048576) : ns.length ≤ 1048576 ∧ ∀ d ∈ ns, d.Ex.length ≤ 1048576 ∧ d.Exs.length ≤ 1048576 ∧ ∀ e ∈ d.Exs, e.length ≤ 1048576 := by
  have h0 := sumC_nonneg cPd_nonneg ns
  refine ⟨by unfold cPS at h; omega, fun d hd => ?_⟩
  have h1 := sumC_mem cPd_nonneg hd
  have h2 : cPd d = cO d.Ex + cOS d.Exs := rfl
  have h3 := cO_nonneg d.Ex
  have h4 := cOS_nonneg d.Exs
  have h5 : cO d.Ex = d.Ex.length := rfl
  have h6 : cOS d.Exs = d.Exs.length + sumC cO d.Exs := rfl
  have h7 := sumC_nonneg cO_nonneg d.Exs
  unfold cPS at h
  refine ⟨by omega, by omega, fun e he => ?_⟩
  have h8 := sumC_mem cO_nonneg he
  have h9 : cO e = e.length := rfl
  omega
set_option maxRecDepth 100000 in
set_option maxHeartbeats 4000000 in
theorem ok7 (ns : List Pd) (x : List (List E)) (hx : x = ns.map pdr) (ts : List Tb) (xt : List (List E)) (hxt : xt = ts.map tbr) :
    Plain Try.prog 7 [.agg [.e (.sl x)], .agg [.e (.sl xt)]] (.bool true) := okOf mixed p7 fun A P hA hP => (by
  have h1 := ok35 ns x hx 1048576 (by omega)
  have n0 : 0 ≤ cPS ns := by have := sumC_nonneg cPd_nonneg ns; unfold cPS; omega
  by_cases c1 : (1048576 : Int) - cPS ns < 0
  · rw [show cut 1048576 (cPS ns) = -1 by unfold cut; rw [if_pos c1]] at h1
    cbv
    repeat' first | with_reducible rfl | with_reducible refine And.intro ?_ ?_ | ((with_reducible intro hcc); first | (cases hcc; done) | skip) | ((with_reducible show goC _ _ _ _ _ _ _ _); cbv) | ((with_reducible show goOps _ _ _ _ _); cbv) | ((with_reducible show goD _ _ _ _ _ _); cbv) | ((with_reducible show okWr _ _ = _); rfl) | ((with_reducible refine callK_eq hA hP ?_ ?_ ?_ (Wks.refl _) (fun _ _ => h1)); exact rfl; exact rfl; cbv) | ((with_reducible refine hA.fin_pl _ _ _ ?_); cbv) | ((with_reducible refine hA.st _ _ _ _ _ ⟨?_, fun ds hds => ?_⟩); rotate_left; cbv) | ((with_reducible refine hA.gb0 true _ ?_); cbv) | ((with_reducible refine hA.gb0 false _ ?_); cbv) | ((with_reducible refine hA.gb _ _ fun vb hvb => ?_); cbv) | (simp only [hA.natLit, hA.natOf, hA.natCast]; cbv)
    all_goals try simp only [hA.add, hA.sub, hA.mul, hA.neg, hA.div, hA.mod, hA.mn, hA.mx, hA.eq, hA.lt, hA.le, hA.nat, hA.R, hA.lep, hA.ltp, hA.seq, inR, n_cast, Int.ofNat_eq_natCast, Option.getD_some, Option.getD_none] at *
    all_goals grind
  · rw [show cut 1048576 (cPS ns) = 1048576 - cPS ns by unfold cut; rw [if_neg c1]] at h1
    obtain ⟨a, ha⟩ : ∃ a : Int, a = 1048576 - cPS ns := ⟨_, rfl⟩
    rw [← ha] at h1
    have e1 : A.lt a 0 = false := by rw [hA.lt]; exact decide_eq_false (by omega)
    have h2 := ok28 ts xt hxt a (by omega)
    by_cases c2 : a - cTS ts < 0
    · rw [show cut a (cTS ts) = -1 by unfold cut; rw [if_pos c2]] at h2
      cbv
      repeat' first | with_reducible rfl | (simp only [e1]; cbv) | with_reducible refine And.intro ?_ ?_ | ((with_reducible intro hcc); first | (cases hcc; done) | skip) | ((with_reducible show goC _ _ _ _ _ _ _ _); cbv) | ((with_reducible show goOps _ _ _ _ _); cbv) | ((with_reducible show goD _ _ _ _ _ _); cbv) | ((with_reducible show okWr _ _ = _); rfl) | ((with_reducible refine callK_eq hA hP ?_ ?_ ?_ (Wks.refl _) (fun _ _ => h1)); exact rfl; exact rfl; cbv) | ((with_reducible refine callK_eq hA hP ?_ ?_ ?_ (Wks.refl _) (fun _ _ => h2)); exact rfl; exact rfl; cbv) | ((with_reducible refine hA.fin_pl _ _ _ ?_); cbv) | ((with_reducible refine hA.st _ _ _ _ _ ⟨?_, fun ds hds => ?_⟩); rotate_left; cbv) | ((with_reducible refine hA.gb0 true _ ?_); cbv) | ((with_reducible refine hA.gb0 false _ ?_); cbv) | ((with_reducible refine hA.gb _ _ fun vb hvb => ?_); cbv) | (simp only [hA.natLit, hA.natOf, hA.natCast]; cbv)
      all_goals try simp only [hA.add, hA.sub, hA.mul, hA.neg, hA.div, hA.mod, hA.mn, hA.mx, hA.eq, hA.lt, hA.le, hA.nat, hA.R, hA.lep, hA.ltp, hA.seq, inR, n_cast, Int.ofNat_eq_natCast, Option.getD_some, Option.getD_none] at *
      all_goals grind
    · rw [show cut a (cTS ts) = a - cTS ts by unfold cut; rw [if_neg c2]] at h2
      obtain ⟨c, hc⟩ : ∃ c : Int, c = a - cTS ts := ⟨_, rfl⟩
      rw [← hc] at h2
      have e2 : A.lt c 0 = false := by rw [hA.lt]; exact decide_eq_false (by omega)
      have hsz : cTS ts ≤ 1048576 := by omega
      obtain ⟨s1, s2⟩ := sz_in' hsz
      obtain ⟨s3, s4⟩ := plan_in (ns := ns) (by omega)
      have hxl : x.length ≤ 1048576 := by rw [hx, List.length_map]; exact s3
      have h217 := ok37 ns x hx s3 s4
      have h37 := ok31 ts xt hxt s1 s2
      obtain ⟨w, hw⟩ : ∃ w, w = if planW ns ts < 0 then 0 else planW ns ts := ⟨_, rfl⟩
      obtain ⟨b, hb⟩ : ∃ b, b = !decide (planW ns ts < 0) := ⟨_, rfl⟩
      have h216 := ok36 ns x hx hxl s4 ts xt hxt hsz w b hw hb
      have h218 := ok38 ns x hx hxl s4 ts xt hxt hsz w b hw hb
      have h219 := ok39 ns ns x x hx hx
      rw [decide_eq_true rfl] at h219
      have h39 := ok34 ts ts xt xt hxt hxt
      rw [decide_eq_true rfl] at h39
      have e3 : A.eq w w = true := by rw [hA.eq]; exact decide_eq_true rfl
      clear hb hw s2 s4
      cases b
      all_goals
        cbv
        repeat' first | with_reducible rfl | (simp only [e3]; cbv) | (simp only [e2]; cbv) | (simp only [e1]; cbv) | with_reducible refine And.intro ?_ ?_ | ((with_reducible intro hcc); first | (cases hcc; done) | skip) | ((with_reducible show goC _ _ _ _ _ _ _ _); cbv) | ((with_reducible show goOps _ _ _ _ _); cbv) | ((with_reducible show goD _ _ _ _ _ _); cbv) | ((with_reducible show okWr _ _ = _); rfl) | ((with_reducible refine callK_eq hA hP ?_ ?_ ?_ (Wks.refl _) (fun _ _ => h1)); exact rfl; exact rfl; cbv) | ((with_reducible refine callK_eq hA hP ?_ ?_ ?_ (Wks.refl _) (fun _ _ => h2)); exact rfl; exact rfl; cbv) | ((with_reducible refine callK_eq hA hP ?_ ?_ ?_ (Wks.refl _) (fun _ _ => h217)); exact rfl; exact rfl; cbv) | ((with_reducible refine callK_eq hA hP ?_ ?_ ?_ (Wks.refl _) (fun _ _ => h37)); exact rfl; exact rfl; cbv) | ((with_reducible refine callK_eq hA hP ?_ ?_ ?_ (Wks.refl _) (fun _ _ => h216)); exact rfl; exact rfl; cbv) | ((with_reducible refine callK_eq hA hP ?_ ?_ ?_ (Wks.refl _) (fun _ _ => h218)); exact rfl; exact rfl; cbv) | ((with_reducible refine callK_eq hA hP ?_ ?_ ?_ (Wks.refl _) (fun _ _ => h219)); exact rfl; exact rfl; cbv) | ((with_reducible refine callK_eq hA hP ?_ ?_ ?_ (Wks.refl _) (fun _ _ => h39)); exact rfl; exact rfl; cbv) | ((with_reducible refine hA.fin_pl _ _ _ ?_); cbv) | ((with_reducible refine hA.st _ _ _ _ _ ⟨?_, fun ds hds => ?_⟩); rotate_left; cbv) | ((with_reducible refine hA.gb0 true _ ?_); cbv) | ((with_reducible refine hA.gb0 false _ ?_); cbv) | ((with_reducible refine hA.gb _ _ fun vb hvb => ?_); cbv) | (simp only [hA.natLit, hA.natOf, hA.natCast]; cbv)
        all_goals try simp only [hA.add, hA.sub, hA.mul, hA.neg, hA.div, hA.mod, hA.mn, hA.mx, hA.eq, hA.lt, hA.le, hA.nat, hA.R, hA.lep, hA.ltp, hA.seq, inR, n_cast, Int.ofNat_eq_natCast, Option.getD_some, Option.getD_none] at *
        all_goals first | rfl | trivial | (clear h1 h2 h217 h37 h216 h218 h219 h39 hx hxt; grind) | (trace_state; fail))
end Go.Proofs.Ytfplalbognalkaa.Ab
