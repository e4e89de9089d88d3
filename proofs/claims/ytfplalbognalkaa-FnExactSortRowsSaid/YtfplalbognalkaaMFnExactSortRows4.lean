/- Sorting: two sorted stretches put together. -/
import Derived.Test.YtfplalbognalkaaMFnExactSortRows3
set_option linter.unusedSimpArgs false
set_option linter.unusedVariables false
set_option linter.unnecessarySimpa false
set_option linter.constructorNameAsVariable false
namespace Go.Proofs.Ytfplalbognalkaa.Ab.NS
open Go
theorem split_two {A : List Row} {k : Nat} (h : k ≤ A.length) : ∃ A1 A2, A = A1 ++ A2 ∧ A1.length = k ∧ A2.length = A.length - k ∧ A1 = A.take k ∧ A2 = A.drop k := ⟨A.take k, A.drop k, by simp, by simp; omega, by simp, rfl, rfl⟩
abbrev SPx (fn : FuncId) (ints : List D) (n : Nat) (bb : Bool) (ds ds' : List D) : Prop := Proc Try.prog fn (fun t => .vec (t 0) n 1 :: (ints ++ [cmpD])) (fun _ => [.vec bb 1 ds]) (fun _ => .tup []) (fun _ => [.vec bb 1 ds'])
theorem cmp_chain {a b c d : Row} (h1 : rcmp a b ≤ 0) (h2 : rcmp b c < 0) (h3 : rcmp c d ≤ 0) : rcmp a d < 0 := by
  have n1 := rcmp_neg a d
  have n2 := rcmp_neg b c
  rcases Int.lt_or_le (rcmp a d) 0 with q | q
  · exact q
  · have := rcmp_trans (rcmp_trans h3 (show rcmp d a ≤ 0 by omega)) h1
    omega
theorem isE_false {x : Row} {l : List Row} : (x :: l).isEmpty = false := rfl
theorem isE_true : ([] : List Row).isEmpty = true := rfl
set_option maxRecDepth 100000 in
set_option maxHeartbeats 16000000 in
theorem ok191c (P A0 B S : List Row) (hA0 : 2 ≤ A0.length) (hB0 : 2 ≤ B.length) (hc : ∀ r ∈ A0 ++ B, Cl r) (hst : ∀ x ∈ A0, ∀ y ∈ B, rcmp x y = 0 → x.1 ≤ y.1) (hsA : Srt A0) (hsB : Srt B) (hlen : (P ++ (A0 ++ (B ++ S))).length ≤ 2147483648)
    (ih : ∀ (P' A' B' S' : List Row), 0 < A'.length → 0 < B'.length → A'.length + B'.length < A0.length + B.length → (P' ++ (A' ++ (B' ++ S'))).length ≤ 2147483648 → (∀ r ∈ A' ++ B', Cl r) → (∀ x ∈ A', ∀ y ∈ B', rcmp x y = 0 → x.1 ≤ y.1) → Srt A' → Srt B' → ∀ a m b : Int, a = P'.length → m = P'.length + A'.length → b = P'.length + A'.length + B'.length → SP 191 [.int a, .int m, .int b] (P' ++ (A' ++ (B' ++ S'))) (P' ++ (srt (A' ++ B') ++ S')))
    {a m0 b : Int} (ha : a = P.length) (hm : m0 = P.length + A0.length) (hb : b = P.length + A0.length + B.length) :
    SP 191 [.int a, .int m0, .int b] (P ++ (A0 ++ (B ++ S))) (P ++ (srt (A0 ++ B) ++ S)) := by
  intro bb
  refine procOf mixed p191 (sp_side (fun _ => rfl) fun _ => rfl) fun A Pr hA hP => ?_
  obtain ⟨n, hn⟩ : ∃ n, n = (P ++ (A0 ++ (B ++ S))).length := ⟨_, rfl⟩
  obtain ⟨C0, hC0⟩ : ∃ C, C = P ++ (A0 ++ (B ++ S)) := ⟨_, rfl⟩
  obtain ⟨ds0, hds0⟩ : ∃ ds, ds = dsR C0 := ⟨_, rfl⟩
  obtain ⟨R0, hR0⟩ : ∃ R, R = P ++ (srt (A0 ++ B) ++ S) := ⟨_, rfl⟩
  obtain ⟨dsF, hdsF⟩ : ∃ ds, ds = dsR R0 := ⟨_, rfl⟩
  have hnl : n = P.length + A0.length + B.length + S.length := by rw [hn]; simp; omega
  have hCl : C0.length = n := by rw [hC0, hn]
  have hdl : ds0.length = n := by rw [hds0, dsR_len, hCl]
  rw [← hn, ← hC0, ← hds0, ← hR0, ← hdsF]
  have e0 : A.eq (A.sub m0 a) 1 = false := by rw [hA.eq, hA.sub]; exact decide_eq_false (by omega)
  have e1 : A.eq (A.sub b m0) 1 = false := by rw [hA.eq, hA.sub]; exact decide_eq_false (by omega)
  obtain ⟨h, hh⟩ : ∃ h : Nat, (a + b) / 2 = a + h := ⟨((a + b) / 2 - a).toNat, by omega⟩
  obtain ⟨bm, hbm⟩ : ∃ bm, A.lt (A.div (A.add a b) 2) m0 = bm := ⟨_, rfl⟩
  obtain ⟨lo, hi, f1, f2, f3, f4, f5, f6, f7⟩ : ∃ lo hi : Nat, (lo = 0 ∨ lo + B.length = h) ∧ (hi = h ∨ hi = A0.length) ∧ lo ≤ hi ∧ hi ≤ h ∧ hi ≤ A0.length ∧ h ≤ lo + B.length ∧ ((bm = true → lo + B.length = h ∧ hi = h) ∧ (bm = false → lo = 0 ∧ hi = A0.length)) := by
    rw [hA.lt, hA.div, hA.add] at hbm
    cases bm with
    | true => have := of_decide_eq_true hbm; exact ⟨h - B.length, h, by omega, by omega, by omega, by omega, by omega, by omega, fun _ => by omega, fun q => by cases q⟩
    | false => have := of_decide_eq_false hbm; exact ⟨0, A0.length, by omega, by omega, by omega, by omega, by omega, by omega, (fun q => by cases q), fun _ => by omega⟩
  cases bm
  all_goals
    simp only [reduceCtorEq, false_implies, true_implies, and_true, true_and] at f7
    cbv
    repeat' first | with_reducible rfl | (simp only [e0, e1, hbm]; cbv) | with_reducible refine And.intro ?_ ?_ | ((with_reducible intro hcc); first | (cases hcc; done) | skip) | ((with_reducible first | show goC _ _ _ _ _ _ _ _ | show goOps _ _ _ _ _ | show goD _ _ _ _ _ _); cbv) | ((with_reducible show okWr _ _ = _); rfl) | ((with_reducible first | refine hA.fin_pl _ _ _ ?_ | refine hA.off _ _ _ _ fun b hb => ?_ | refine hA.gb0 true _ ?_ | refine hA.gb0 false _ ?_ | refine hA.gb _ _ fun vb hvb => ?_); cbv) | ((with_reducible first | refine hA.st _ _ _ _ _ ⟨?_, fun ds hds => ?_⟩ | refine hA.sapp _ _ _ ⟨?_, fun sl hsl => ?_⟩); rotate_left; cbv) | (simp only [hA.lits]; cbv)
    all_goals try simp only [hA.ar, inR, n_cast, Int.ofNat_eq_natCast, Option.getD_some, Option.getD_none] at *
    all_goals try omega
    all_goals try (simp [IntKind.min, IntKind.max, IntKind.signed, IntKind.bits]; omega)
    clear hbm e0 e1
    refine hA.loopI (fun mm s => ∃ (u v : Nat) (i j md nn p : Int), md = (a + b) / 2 ∧ nn = (a + b) / 2 + m0 ∧ p = (a + b) / 2 + m0 - 1 ∧ i = a + u ∧ j = a + v ∧ lo ≤ u ∧ u ≤ v ∧ v ≤ hi ∧ mm = v - u ∧ (∀ t, lo ≤ t → t < u → rcmp (A0.getD t r0) (B.getD (h - 1 - t) r0) ≤ 0) ∧ (∀ t, v ≤ t → t < hi → rcmp (B.getD (h - 1 - t) r0) (A0.getD t r0) < 0) ∧
        s = ⟨[(20, .int i), (21, .int j), (0, .vec 0 n 1), (1, .int a), (2, .int m0), (3, .int b), (4, cmpD), (18, .int md), (19, .int nn), (22, .int p)], [.vec bb 1 ds0]⟩) (hi - lo) _
      (Weak.keep (env' := [(20, .int _), (21, .int _), (0, .vec 0 n 1), (1, .int a), (2, .int m0), (3, .int b), (4, cmpD), (18, .int _), (19, .int _), (22, .int _)]) ⟨rfl, rfl, rfl, rfl, rfl, rfl, rfl, rfl, rfl, rfl, trivial⟩) ⟨lo, hi, _, _, _, _, _, rfl, rfl, rfl, by omega, by omega, by omega, by omega, by omega, by omega, fun t h1 h2 => by omega, fun t h1 h2 => by omega, rfl⟩ ?_
    rintro mm s K ⟨u, v, i, j, md, nn, p, hmd, hnn, hp, hi1, hj1, h0, h1, h2, h3, h4, h5, rfl⟩ hK
    rcases Nat.lt_or_ge u v with huv | huv
    · have e2 : A.lt i j = true := by rw [hA.lt]; exact decide_eq_true (by omega)
      obtain ⟨w, hw⟩ : ∃ w : Nat, (w : Int) = (i + j) / 2 - a := ⟨((i + j) / 2 - a).toNat, by omega⟩
      obtain ⟨x, hx⟩ : ∃ x, x = A0.getD w r0 := ⟨_, rfl⟩
      obtain ⟨y, hy⟩ : ∃ y, y = B.getD (h - 1 - w) r0 := ⟨_, rfl⟩
      obtain ⟨xs, hxs⟩ : ∃ xs, xs = x.2.map vr := ⟨_, rfl⟩
      obtain ⟨ys, hys⟩ : ∃ ys, ys = y.2.map vr := ⟨_, rfl⟩
      obtain ⟨r, hr⟩ : ∃ r, r = rcmp y x := ⟨_, rfl⟩
      have h28 : Plain Try.prog 13 [.e (.fs y.1 ys), .e (.fs x.1 xs)] (.int r) := by rw [hr]; exact cmpN y x ys xs hys hxs
      have ldx : ∀ {o : Nat} {c : D}, o = 0 + (A.div (A.add i j) 2).toNat * 1 → c = ds0.getD o default → c = .e (.fs x.1 xs) := fun {o c} q1 q2 => by
        rw [hA.div, hA.add] at q1
        rw [dsR_get hds0 (by omega) q2, hxs, hx, hC0, getD_app _ _ (show o = P.length + w by omega), getD_left _ _ (by omega)]
      have ldy : ∀ {o : Nat} {c : D}, o = 0 + (A.sub p (A.div (A.add i j) 2)).toNat * 1 → c = ds0.getD o default → c = .e (.fs y.1 ys) := fun {o c} q1 q2 => by
        rw [hA.div, hA.add, hA.sub] at q1
        rw [dsR_get hds0 (by omega) q2, hys, hy, hC0, show P ++ (A0 ++ (B ++ S)) = (P ++ A0) ++ (B ++ S) by simp, getD_app _ _ (show o = (P ++ A0).length + (h - 1 - w) by simp; omega), getD_left _ _ (by omega)]
      have hK1 : ∀ env : List (Nat × D), ¬ rcmp y x < 0 → subL [(20, .int ((i + j) / 2 + 1)), (21, .int j), (0, .vec 0 n 1), (1, .int a), (2, .int m0), (3, .int b), (4, cmpD), (18, .int md), (19, .int nn), (22, .int p)] env → K ⟨env, [.vec bb 1 ds0]⟩ := fun env q1 q2 =>
        hK _ (v - (w + 1)) _ (by omega) (Weak.keep q2) ⟨w + 1, v, _, _, md, nn, p, hmd, hnn, hp, by omega, hj1, by omega, by omega, h2, rfl, fun t ht0 ht => by
          have a1 := srt_get hsA (show t ≤ w by omega) (by omega)
          have a2 := srt_get hsB (show h - 1 - w ≤ h - 1 - t by omega) (by omega)
          rw [← hx] at a1
          rw [← hy] at a2
          have n2 := rcmp_neg y x
          exact rcmp_trans (rcmp_trans a1 (show rcmp x y ≤ 0 by omega)) a2, h5, rfl⟩
      have hK2 : ∀ env : List (Nat × D), rcmp y x < 0 → subL [(20, .int i), (21, .int ((i + j) / 2)), (0, .vec 0 n 1), (1, .int a), (2, .int m0), (3, .int b), (4, cmpD), (18, .int md), (19, .int nn), (22, .int p)] env → K ⟨env, [.vec bb 1 ds0]⟩ := fun env q1 q2 =>
        hK _ (w - u) _ (by omega) (Weak.keep q2) ⟨u, w, _, _, md, nn, p, hmd, hnn, hp, hi1, by omega, h0, by omega, by omega, rfl, h4, fun t ht ht2 => by
          have a1 := srt_get hsA (show w ≤ t by omega) (by omega)
          have a2 := srt_get hsB (show h - 1 - t ≤ h - 1 - w by omega) (by omega)
          rw [← hx] at a1
          rw [← hy] at a2
          rcases Int.lt_or_le (rcmp (B.getD (h - 1 - t) r0) (A0.getD t r0)) 0 with q | q
          · exact q
          · have n1 := rcmp_neg (B.getD (h - 1 - t) r0) (A0.getD t r0)
            have n2 := rcmp_neg y x
            have := rcmp_trans (rcmp_trans a1 (show rcmp (A0.getD t r0) (B.getD (h - 1 - t) r0) ≤ 0 by omega)) a2
            omega, rfl⟩
      clear hK h4 h5 ih hsA hsB hc hst
      cbv
      repeat' first | with_reducible rfl | (simp only [e2]; cbv) | with_reducible refine And.intro ?_ ?_ | ((with_reducible intro hcc); first | (cases hcc; done) | skip) | ((with_reducible first | show goC _ _ _ _ _ _ _ _ | show goOps _ _ _ _ _ | show goD _ _ _ _ _ _); cbv) | ((with_reducible show okWr _ _ = _); rfl) | ((with_reducible first | refine callK_f hA hP h28 ?_ ?_ ?_); exact rfl; exact rfl; cbv) | ((with_reducible refine hA.ld1 _ _ _ ⟨?_, fun c hc => ?_⟩); rotate_left; first | ((have e9 := ldx hb hc); subst e9; cbv) | ((have e9 := ldy hb hc); subst e9; cbv)) | ((with_reducible first | refine hA.fin_pl _ _ _ ?_ | refine hA.off _ _ _ _ fun b hb => ?_ | refine hA.gb0 true _ ?_ | refine hA.gb0 false _ ?_ | refine hA.gb _ _ fun vb hvb => ?_); cbv) | ((with_reducible first | refine hA.st _ _ _ _ _ ⟨?_, fun ds hds => ?_⟩ | refine hA.sapp _ _ _ ⟨?_, fun sl hsl => ?_⟩); rotate_left; cbv) | (simp only [hA.lits]; cbv)
      all_goals try simp only [hA.ar, inR, n_cast, Int.ofNat_eq_natCast, Option.getD_some, Option.getD_none] at *
      all_goals first
        | omega
        | exact f28ok hP
        | (simp [IntKind.min, IntKind.max, IntKind.signed, IntKind.bits]; omega)
        | exact hK1 _ (by rw [← hr]; have q := (by assumption : (!decide (r < 0)) = true); simpa using q) ⟨rfl, rfl, rfl, rfl, rfl, rfl, rfl, rfl, rfl, rfl, trivial⟩
        | exact hK2 _ (by rw [← hr]; have q := (by assumption : (!decide (r < 0)) = false); simpa using q) ⟨rfl, rfl, rfl, rfl, rfl, rfl, rfl, rfl, rfl, rfl, trivial⟩
        | (trace_state; fail)
    · have e2 : A.lt i j = false := by rw [hA.lt]; exact decide_eq_false (by omega)
      have huv : u = v := by omega
      subst huv
      clear hK
      obtain ⟨A1, A2, rfl, q1, q2, q3, q4⟩ := split_two (A := A0) (k := u) (by omega)
      obtain ⟨B1, B2, rfl, q5, q6, q7, q8⟩ := split_two (A := B) (k := h - u) (by omega)
      rw [List.length_append, List.length_append] at *
      have s1 := (List.pairwise_append.1 hsA)
      have s2 := (List.pairwise_append.1 hsB)
      have g1 : ∀ x ∈ A1, ∀ y ∈ B2, le x y := fun x hx y hy => by
        have hst1 := hst x (by simp [hx]) y (by simp [hy])
        have l1 := List.length_pos_of_mem hx
        have l2 := List.length_pos_of_mem hy
        rw [q3] at hx
        rw [q8] at hy
        obtain ⟨t, t1, t2, rfl⟩ := mem_take_getD hx
        obtain ⟨t', t3, t4, rfl⟩ := mem_drop_getD hy
        rw [List.length_append] at t2 t4
        have a1 := srt_get hsA (show t ≤ u - 1 by omega) (by rw [List.length_append]; omega)
        have a2 := srt_get hsB (show h - u ≤ t' by omega) (by rw [List.length_append]; omega)
        have a3 := h4 (u - 1) (by omega) (by omega)
        rw [show h - 1 - (u - 1) = h - u by omega] at a3
        have a4 := rcmp_trans (rcmp_trans a1 a3) a2
        have n4 := rcmp_neg (List.getD (A1 ++ A2) t r0) (List.getD (B1 ++ B2) t' r0)
        exact le_of (by omega) hst1
      have g2 : ∀ x ∈ A2, ∀ y ∈ B1, le y x := fun x hx y hy => by
        have l1 := List.length_pos_of_mem hx
        have l2 := List.length_pos_of_mem hy
        rw [q4] at hx
        rw [q7] at hy
        obtain ⟨t, t1, t2, rfl⟩ := mem_drop_getD hx
        obtain ⟨t', t3, t4, rfl⟩ := mem_take_getD hy
        rw [List.length_append] at t2 t4
        have a1 := srt_get hsA (show u ≤ t by omega) (by rw [List.length_append]; omega)
        have a2 := srt_get hsB (show t' ≤ h - 1 - u by omega) (by rw [List.length_append]; omega)
        have a3 := h5 u (by omega) (by omega)
        exact .inl (cmp_chain a2 a3 a1)
      have hsym := srt_sym hc hsA hsB g1 g2
      clear h4 h5 g1 g2 q3 q4 q7 q8 hsA hsB
      have v11 : ∀ x ∈ A1, ∀ y ∈ B1, rcmp x y = 0 → x.1 ≤ y.1 := fun x hx y hy => hst x (by simp [hx]) y (by simp [hy])
      have v22 : ∀ x ∈ A2, ∀ y ∈ B2, rcmp x y = 0 → x.1 ≤ y.1 := fun x hx y hy => hst x (by simp [hx]) y (by simp [hy])
      have c11 : ∀ r ∈ A1 ++ B1, Cl r := fun r hr => hc r (by simp at hr ⊢; grind)
      have c22 : ∀ r ∈ A2 ++ B2, Cl r := fun r hr => hc r (by simp at hr ⊢; grind)
      obtain ⟨C1, hC1⟩ : ∃ C, C = P ++ (A1 ++ (B1 ++ (A2 ++ (B2 ++ S)))) := ⟨_, rfl⟩
      obtain ⟨ds1, hds1⟩ : ∃ ds, ds = dsR C1 := ⟨_, rfl⟩
      obtain ⟨C2, hC2⟩ : ∃ C, C = P ++ (srt (A1 ++ B1) ++ (A2 ++ (B2 ++ S))) := ⟨_, rfl⟩
      obtain ⟨ds2, hds2⟩ : ∃ ds, ds = dsR C2 := ⟨_, rfl⟩
      have l11 : (srt (A1 ++ B1)).length = A1.length + B1.length := by rw [srt_len, List.length_append]
      have hS0 : S.length = S.length := rfl
      have hlen1 : P.length + A1.length + A2.length + B1.length + B2.length + S.length ≤ 2147483648 := by simp at hlen; omega
      obtain ⟨z1, hz1⟩ : ∃ z : Bool, z = decide (0 < A1.length) := ⟨_, rfl⟩
      obtain ⟨z2, hz2⟩ : ∃ z : Bool, z = decide (0 < A2.length) := ⟨_, rfl⟩
      obtain ⟨z3, hz3⟩ : ∃ z : Bool, z = decide (0 < B1.length) := ⟨_, rfl⟩
      obtain ⟨z4, hz4⟩ : ∃ z : Bool, z = decide (0 < B2.length) := ⟨_, rfl⟩
      have t1 : A.lt i m0 = z2 := by rw [hA.lt, hz2]; congr 1; apply propext; omega
      have t2 : A.lt m0 (A.sub nn i) = z3 := by rw [hA.lt, hA.sub, hz3]; congr 1; apply propext; omega
      have t3 : A.lt a i = z1 := by rw [hA.lt, hz1]; congr 1; apply propext; omega
      have t4 : A.lt i md = z3 := by rw [hA.lt, hz3]; congr 1; apply propext; omega
      have t5 : A.lt md (A.sub nn i) = z2 := by rw [hA.lt, hA.sub, hz2]; congr 1; apply propext; omega
      have t6 : A.lt (A.sub nn i) b = z4 := by rw [hA.lt, hA.sub, hz4]; congr 1; apply propext; omega
      obtain ⟨en, hen⟩ : ∃ en, en = A.sub nn i := ⟨_, rfl⟩
      have hen2 : en = nn - i := by rw [hen, hA.sub]
      have huh : u ≤ h := by omega
      clear f1 f2 f3 f4 f5 f6 f7 h0 h1 h2 h3
      have k1 : z2 = true → z3 = true → Proc Try.prog 200 (fun t => [.vec (t 0) n 1, .int i, .int m0, .int en, cmpD]) (fun _ => [.vec bb 1 ds0]) (fun _ => .tup []) (fun _ => [.vec bb 1 ds1]) := fun p1 p2 => by
        rw [p1] at hz2
        rw [p2] at hz3
        have p1 := of_decide_eq_true hz2.symm
        have p2 := of_decide_eq_true hz3.symm
        exact sp_hide (ok200 (P ++ A1) A2 B1 (B2 ++ S) p1 p2 (by simp; omega) (by simp; omega) (by simp; omega) (by simp; omega)) (by rw [hnl]; simp; omega) (by rw [hds0, hC0]; simp) (by rw [hds1, hC1]; simp) bb
      have k1' : (z2 && z3) = false → ds1 = ds0 := fun p => by
        rw [hds1, hds0, hC1, hC0]
        rw [hz2, hz3] at p
        by_cases p1 : A2 = []
        · rw [p1]; simp
        · have : B1 = [] := by
            rw [decide_eq_true (List.length_pos_iff.2 p1), Bool.true_and] at p
            have := of_decide_eq_false p
            exact List.length_eq_zero_iff.1 (by omega)
          rw [this]; simp
      have k2 : z1 = true → z3 = true → Proc Try.prog 191 (fun t => [.vec (t 0) n 1, .int a, .int i, .int md, cmpD]) (fun _ => [.vec bb 1 ds1]) (fun _ => .tup []) (fun _ => [.vec bb 1 ds2]) := fun p1 p2 => by
        rw [p1] at hz1
        rw [p2] at hz3
        have p1 := of_decide_eq_true hz1.symm
        have p2 := of_decide_eq_true hz3.symm
        exact sp_hide (ih P A1 B1 (A2 ++ (B2 ++ S)) p1 p2 (by omega) (by simp; omega) c11 v11 s1.1 s2.1 _ _ _ (by omega) (by omega) (by omega)) (by rw [hnl]; simp; omega) (by rw [hds1, hC1]) (by rw [hds2, hC2]) bb
      have k2' : (z1 && z3) = false → ds2 = ds1 := fun p => by
        rw [hds2, hds1, hC2, hC1]
        rw [hz1, hz3] at p
        by_cases p1 : A1 = []
        · subst p1; rw [List.nil_append] at c11 ⊢; rw [srt_self c11 s2.1]; rfl
        · have : B1 = [] := by
            rw [decide_eq_true (List.length_pos_iff.2 p1), Bool.true_and] at p
            have := of_decide_eq_false p
            exact List.length_eq_zero_iff.1 (by omega)
          subst this
          rw [List.append_nil] at c11 ⊢
          rw [srt_self c11 s1.1]; rfl
      have k3 : z2 = true → z4 = true → Proc Try.prog 191 (fun t => [.vec (t 0) n 1, .int md, .int en, .int b, cmpD]) (fun _ => [.vec bb 1 ds2]) (fun _ => .tup []) (fun _ => [.vec bb 1 dsF]) := fun p1 p2 => by
        rw [p1] at hz2
        rw [p2] at hz4
        have p1 := of_decide_eq_true hz2.symm
        have p2 := of_decide_eq_true hz4.symm
        exact sp_hide (ih (P ++ srt (A1 ++ B1)) A2 B2 S p1 p2 (by omega) (by simp [l11]; omega) c22 v22 s1.2.1 s2.2.1 _ _ _ (by simp [l11]; omega) (by simp [l11]; omega) (by simp [l11]; omega)) (by rw [hnl]; simp [l11]; omega) (by rw [hds2, hC2]; simp) (by rw [hdsF, hR0, ← hsym]; simp) bb
      have k3' : (z2 && z4) = false → dsF = ds2 := fun p => by
        rw [hdsF, hds2, hR0, hC2, ← hsym]
        rw [hz2, hz4] at p
        by_cases p1 : A2 = []
        · subst p1; rw [List.nil_append] at c22 ⊢; rw [srt_self c22 s2.2.1]; simp
        · have : B2 = [] := by
            rw [decide_eq_true (List.length_pos_iff.2 p1), Bool.true_and] at p
            have := of_decide_eq_false p
            exact List.length_eq_zero_iff.1 (by omega)
          subst this
          rw [List.append_nil] at c22 ⊢
          rw [srt_self c22 s1.2.1]; simp
      rw [← hen] at t2 t5 t6
      have hF : ∀ {d' : D} {l' : List O} {ds : List D}, hpF l' 0 = .vec bb 1 ds → ds = dsF → .tup [] = d' → A.finv [.vec bb 1 ds0] l' d' [.vec bb 1 dsF] (.tup []) := fun x1 x2 x3 => sp_fin hA hdsF rfl x1 x2 x3
      have hen3 : -9223372036854775808 ≤ en ∧ en ≤ 9223372036854775807 := by omega
      clear ih hsym c11 c22 v11 v22 hst hc hds0 hds1 hds2 hC0 hC1 hC2 hR0 s1 s2 l11 hlen hlen1 hz1 hz2 hz3 hz4 hdsF hmd hnn hp hi1 hj1 hnl hn hCl hdl q1 q2 q5 q6 hh ha hm hb hA0 hB0 hS0
      cases z1 <;> cases z2 <;> cases z3 <;> cases z4
      all_goals
        simp only [Bool.and_true, Bool.and_false, Bool.true_and, Bool.false_and, Bool.and_self, reduceCtorEq, true_implies, false_implies, forall_const] at k1 k1' k2 k2' k3 k3'
        try subst k1'
        try subst k2'
        try subst k3'
        cbv
        repeat' first | with_reducible rfl | (simp only [e2, ← hen, t1, t2, t3, t4, t5, t6]; cbv) | with_reducible refine And.intro ?_ ?_ | ((with_reducible intro hcc); first | (cases hcc; done) | skip) | ((with_reducible first | show goC _ _ _ _ _ _ _ _ | show goOps _ _ _ _ _ | show goD _ _ _ _ _ _); cbv) | ((with_reducible show okWr _ _ = _); rfl) | ((with_reducible show A.call _ _ _ _ _ 200 _ _ _); have hc := k1; refine callK_pr hA hP [0] (by rfl) (by exact ⟨rfl, trivial⟩) (Wks.refl _) ?_ (fun _ _ => hc) hc.side; cbv) | ((with_reducible show A.call _ _ _ _ _ 191 _ _ _); have hc := k2; refine callK_pr hA hP [0] (by rfl) (by exact ⟨rfl, trivial⟩) (Wks.refl _) ?_ (fun _ _ => hc) hc.side; cbv) | ((with_reducible show A.call _ _ _ _ _ 191 _ _ _); have hc := k3; refine callK_pr hA hP [0] (by rfl) (by exact ⟨rfl, trivial⟩) (Wks.refl _) ?_ (fun _ _ => hc) hc.side; cbv) | ((with_reducible first | refine hA.fin_pl _ _ _ ?_ | refine hA.off _ _ _ _ fun b hb => ?_ | refine hA.gb0 true _ ?_ | refine hA.gb0 false _ ?_ | refine hA.gb _ _ fun vb hvb => ?_); cbv) | ((with_reducible first | refine hA.st _ _ _ _ _ ⟨?_, fun ds hds => ?_⟩ | refine hA.sapp _ _ _ ⟨?_, fun sl hsl => ?_⟩); rotate_left; cbv) | (simp only [hA.lits]; cbv)
        all_goals try simp only [hA.ar, inR, n_cast, Int.ofNat_eq_natCast, Option.getD_some, Option.getD_none] at *
        all_goals first
          | exact hF rfl rfl rfl
          | exact hen3
          | (trace_state; fail)
theorem ok191 (N : Nat) : ∀ (P A0 B S : List Row), A0.length + B.length < N → 0 < A0.length → 0 < B.length → (P ++ (A0 ++ (B ++ S))).length ≤ 2147483648 → (∀ r ∈ A0 ++ B, Cl r) → (∀ x ∈ A0, ∀ y ∈ B, rcmp x y = 0 → x.1 ≤ y.1) → Srt A0 → Srt B → ∀ a m b : Int, a = P.length → m = P.length + A0.length → b = P.length + A0.length + B.length → SP 191 [.int a, .int m, .int b] (P ++ (A0 ++ (B ++ S))) (P ++ (srt (A0 ++ B) ++ S)) := by
  induction N with
  | zero => intro P A0 B S h; omega
  | succ N ih =>
    intro P A0 B S h hA0 hB0 hlen hc hst hsA hsB a m b ha hm hb
    by_cases h1 : A0.length = 1
    · obtain ⟨x, rfl⟩ := List.length_eq_one_iff.1 h1
      exact ok191a P B S x hB0 hc (fun r hr => hst x (by simp) r hr) hsB hlen ha (by simpa using hm) (by simpa using hb)
    · by_cases h2 : B.length = 1
      · obtain ⟨x, rfl⟩ := List.length_eq_one_iff.1 h2
        exact ok191b P A0 S x (by omega) hc (fun r hr => hst r hr x (by simp)) hsA hlen ha hm (by simpa using hb)
      · exact ok191c P A0 B S (by omega) (by omega) hc hst hsA hsB hlen (fun P' A' B' S' p1 p2 p3 p4 p5 p6 p7 p8 => ih P' A' B' S' (by omega) p1 p2 p4 p5 p6 p7 p8) ha hm hb
end Go.Proofs.Ytfplalbognalkaa.Ab.NS
/- Sorting: blocks, then stretches of twice the size. -/
namespace Go.Proofs.Ytfplalbognalkaa.Ab.NS
open Go
/-- Each block of a size in order. -/
def blkN (k : Nat) : Nat → List Row → List Row
  | 0, _ => []
  | m + 1, l => if l = [] then [] else srt (l.take k) ++ blkN k m (l.drop k)
def blk (k : Nat) (l : List Row) : List Row := blkN k l.length l
theorem blkN_eq {k : Nat} (hk : 0 < k) : ∀ (m m' : Nat) (l : List Row), l.length ≤ m → l.length ≤ m' → blkN k m l = blkN k m' l
  | 0, 0, l, _, _ => rfl
  | 0, m' + 1, l, h, _ => by
    have : l = [] := List.length_eq_zero_iff.1 (by omega)
    subst this; simp [blkN]
  | m + 1, 0, l, _, h => by
    have : l = [] := List.length_eq_zero_iff.1 (by omega)
    subst this; simp [blkN]
  | m + 1, m' + 1, l, h1, h2 => by
    unfold blkN
    split
    · rfl
    · rename_i hl
      have hl0 : 0 < l.length := List.length_pos_iff.2 hl
      rw [blkN_eq hk m m' (l.drop k) (by simp; omega) (by simp; omega)]
theorem blk_nil (k : Nat) : blk k [] = [] := rfl
theorem srt_nil : srt ([] : List Row) = [] := List.mergeSort_nil
theorem blk_app {k : Nat} (hk : 0 < k) {Z R : List Row} (hz : Z.length = k) : blk k (Z ++ R) = srt Z ++ blk k R := by
  have hne : Z ++ R ≠ [] := fun e => by have h := congrArg List.length e; rw [List.length_append, List.length_nil] at h; omega
  rw [blk, show (Z ++ R).length = (Z ++ R).length - 1 + 1 by rw [List.length_append]; omega, blkN, if_neg hne, List.take_left' hz, List.drop_left' hz]
  rw [blk, blkN_eq hk _ R.length R (by rw [List.length_append]; omega) (Nat.le_refl _)]
theorem blk_one {k : Nat} (hk : 0 < k) {R : List Row} (h : R.length ≤ k) : blk k R = srt R := by
  by_cases e : R = []
  · subst e; rw [blk_nil, srt_nil]
  · have h0 : 0 < R.length := List.length_pos_iff.2 e
    rw [blk, show R.length = R.length - 1 + 1 by omega, blkN, if_neg e, List.take_of_length_le h, List.drop_eq_nil_of_le h]
    have : ∀ m, blkN k m [] = [] := fun m => by cases m <;> simp [blkN]
    rw [this, List.append_nil]
theorem blk_len {k : Nat} (hk : 0 < k) : ∀ (m : Nat) (l : List Row), l.length ≤ m → (blk k l).length = l.length
  | 0, l, h => by
    have : l = [] := List.length_eq_zero_iff.1 (by omega)
    subst this; rfl
  | m + 1, l, h => by
    by_cases h1 : l.length ≤ k
    · rw [blk_one hk h1, srt_len]
    · have e := blk_app hk (Z := l.take k) (R := l.drop k) (by simp; omega)
      rw [List.take_append_drop] at e
      rw [e, List.length_append, srt_len, blk_len hk m (l.drop k) (by simp; omega)]
      simp; omega
theorem blk_two {k : Nat} (hk : 0 < k) {Z1 Z2 : List Row} (h1 : Z1.length = k) (h2 : Z2.length ≤ k) : blk k (Z1 ++ Z2) = srt Z1 ++ srt Z2 := by
  rw [blk_app hk h1, blk_one hk h2]
theorem srt_srt2 {Z1 Z2 : List Row} (hc : ∀ r ∈ Z1 ++ Z2, Cl r) : srt (srt Z1 ++ srt Z2) = srt (Z1 ++ Z2) :=
  srt_unique hc ((srt_perm _).trans ((srt_perm Z1).append (srt_perm Z2))) (srt_srt _)
theorem cl_two {Z1 Z2 : List Row} (hc : ∀ r ∈ Z1 ++ Z2, Cl r) : ∀ r ∈ srt Z1 ++ srt Z2, Cl r := fun r hr => by
  rcases List.mem_append.1 hr with h | h
  · exact hc r (List.mem_append.2 (.inl ((srt_perm Z1).mem_iff.1 h)))
  · exact hc r (List.mem_append.2 (.inr ((srt_perm Z2).mem_iff.1 h)))
theorem stb_mid {c X Z R : List Row} (h : Stb c) (e : c = X ++ (Z ++ R)) : Stb Z := by
  rw [e] at h
  exact (List.pairwise_append.1 (List.pairwise_append.1 h).2.1).1
theorem stb_two {c X Z1 Z2 R : List Row} (h : Stb c) (e : c = X ++ (Z1 ++ (Z2 ++ R))) : ∀ x ∈ srt Z1, ∀ y ∈ srt Z2, rcmp x y = 0 → x.1 ≤ y.1 := fun x hx y hy => by
  rw [e] at h
  exact (List.pairwise_append.1 (List.pairwise_append.1 h).2.1).2.2 x ((srt_perm Z1).mem_iff.1 hx) y (by simp [(srt_perm Z2).mem_iff.1 hy])
set_option maxRecDepth 100000 in
set_option maxHeartbeats 8000000 in
theorem ok160 (c : List Row) (hcc0 : ∀ r ∈ c, Cl r) (hst : Stb c) (hlen : c.length ≤ 1073741824) {nn : Int} (hnn : nn = c.length) : SP 160 [.int nn] c (srt c) := by
  intro bb
  refine procOf mixed p160 (sp_side (fun _ => rfl) fun _ => rfl) fun A Pr hA hP => ?_
  obtain ⟨n, hn⟩ : ∃ n, n = c.length := ⟨_, rfl⟩
  obtain ⟨ds0, hds0⟩ : ∃ ds, ds = dsR c := ⟨_, rfl⟩
  obtain ⟨dsF, hdsF⟩ : ∃ ds, ds = dsR (srt c) := ⟨_, rfl⟩
  rw [← hn, ← hds0, ← hdsF]
  cbv
  repeat' first | with_reducible rfl | with_reducible refine And.intro ?_ ?_ | ((with_reducible intro hcc); first | (cases hcc; done) | skip) | ((with_reducible first | show goC _ _ _ _ _ _ _ _ | show goOps _ _ _ _ _ | show goD _ _ _ _ _ _); cbv) | ((with_reducible show okWr _ _ = _); rfl) | ((with_reducible first | refine hA.fin_pl _ _ _ ?_); cbv) | ((with_reducible first | refine hA.sapp _ _ _ ⟨?_, fun sl hsl => ?_⟩); rotate_left; cbv) | (simp only [hA.lits]; cbv)
  all_goals try simp only [hA.ar, inR, n_cast, Int.ofNat_eq_natCast, Option.getD_some, Option.getD_none] at *
  refine hA.loopI (fun mm s => ∃ (X R Y : List Row) (a b : Int) (ds : List D), c = X ++ R ∧ a = X.length ∧ b = a + 20 ∧ mm = R.length ∧ Y.length = X.length ∧ (∀ R', blk 20 (X ++ R') = Y ++ blk 20 R') ∧ ds = dsR (Y ++ R) ∧
      s = ⟨[(6, .int 20), (7, .int a), (8, .int b), (0, .vec 0 n 1), (1, .int nn), (2, cmpD)], [.vec bb 1 ds]⟩) n _
    (Weak.keep (env' := [(6, .int 20), (7, .int 0), (8, .int 20), (0, .vec 0 n 1), (1, .int nn), (2, cmpD)]) ⟨rfl, rfl, rfl, rfl, rfl, rfl, trivial⟩) ⟨[], c, [], 0, 20, ds0, rfl, rfl, rfl, hn, rfl, fun R' => rfl, hds0, rfl⟩ ?_
  rintro mm s K ⟨X, R, Y, a, b, ds1, hcX, ha, hb, hmm, hY, hpre, hd1, rfl⟩ hK
  have hcl : c.length = X.length + R.length := by rw [hcX]; simp
  rcases Int.lt_or_le nn b with hbn | hbn
  case inr =>
    have e1 : A.le b nn = true := by rw [hA.le]; exact decide_eq_true hbn
    obtain ⟨Z, R2, rfl, z1, z2⟩ := split_at (A := R) (k := 20) (by omega)
    rw [List.length_append] at hcl
    obtain ⟨ds2, hds2⟩ : ∃ ds, ds = dsR ((Y ++ srt Z) ++ R2) := ⟨_, rfl⟩
    have k1 : Proc Try.prog 190 (fun t => [.vec (t 0) n 1, .int a, .int b, cmpD]) (fun _ => [.vec bb 1 ds1]) (fun _ => .tup []) (fun _ => [.vec bb 1 ds2]) :=
      sp_hide (ok190 Y Z R2 (fun r hr => hcc0 r (by rw [hcX]; simp [hr])) (stb_mid hst hcX) (by simp; omega) (by omega) (by omega)) (by simp; omega) (by rw [hd1]; simp) hds2 bb
    have k2 : ∀ env : List (Nat × D), subL [(6, .int 20), (7, .int b), (8, .int (b + 20)), (0, .vec 0 n 1), (1, .int nn), (2, cmpD)] env → K ⟨env, [.vec bb 1 ds2]⟩ := fun env q =>
      hK _ R2.length _ (by simp at hmm; omega) (Weak.keep q) ⟨X ++ Z, R2, Y ++ srt Z, b, b + 20, ds2, by rw [hcX]; simp, by simp; omega, rfl, rfl, by simp [srt_len]; omega, (fun R' => by rw [List.append_assoc, hpre, blk_app (by omega) z1]; simp), hds2, rfl⟩
    clear hK hpre hds2 hd1 hcX hds0 hdsF
    cbv
    repeat' first | with_reducible rfl | (simp only [e1]; cbv) | with_reducible refine And.intro ?_ ?_ | ((with_reducible intro hcc); first | (cases hcc; done) | skip) | ((with_reducible first | show goC _ _ _ _ _ _ _ _ | show goOps _ _ _ _ _ | show goD _ _ _ _ _ _); cbv) | ((with_reducible show okWr _ _ = _); rfl) | ((with_reducible show A.call _ _ _ _ _ 190 _ _ _); have hc := k1; refine callK_pr hA hP [0] (by rfl) (by exact ⟨rfl, trivial⟩) (Wks.refl _) ?_ (fun _ _ => hc) hc.side; cbv) | ((with_reducible first | refine hA.fin_pl _ _ _ ?_); cbv) | ((with_reducible first | refine hA.sapp _ _ _ ⟨?_, fun sl hsl => ?_⟩); rotate_left; cbv) | (simp only [hA.lits]; cbv)
    all_goals try simp only [hA.ar, inR, n_cast, Int.ofNat_eq_natCast, Option.getD_some, Option.getD_none] at *
    all_goals first
      | exact k2 _ ⟨rfl, rfl, rfl, rfl, rfl, rfl, trivial⟩
      | omega
      | (trace_state; fail)
  case inl =>
    have e1 : A.le b nn = false := by rw [hA.le]; exact decide_eq_false (by omega)
    clear hK
    obtain ⟨ds2, hds2⟩ : ∃ ds, ds = dsR (blk 20 c) := ⟨_, rfl⟩
    have k1 : Proc Try.prog 190 (fun t => [.vec (t 0) n 1, .int a, .int nn, cmpD]) (fun _ => [.vec bb 1 ds1]) (fun _ => .tup []) (fun _ => [.vec bb 1 ds2]) :=
      sp_hide (ok190 Y R [] (fun r hr => hcc0 r (by rw [hcX]; simp [hr])) (stb_mid (X := X) (R := []) hst (by rw [hcX]; simp)) (by simp; omega) (by omega) (by omega)) (by simp; omega) (by rw [hd1]; simp) (by rw [hds2, hcX, hpre, blk_one (by omega) (show R.length ≤ 20 by omega)]; simp) bb
    clear hpre hd1 hcX hds0
    cbv
    repeat' first | with_reducible rfl | (simp only [e1]; cbv) | with_reducible refine And.intro ?_ ?_ | ((with_reducible intro hcc); first | (cases hcc; done) | skip) | ((with_reducible first | show goC _ _ _ _ _ _ _ _ | show goOps _ _ _ _ _ | show goD _ _ _ _ _ _); cbv) | ((with_reducible show okWr _ _ = _); rfl) | ((with_reducible show A.call _ _ _ _ _ 190 _ _ _); have hc := k1; refine callK_pr hA hP [0] (by rfl) (by exact ⟨rfl, trivial⟩) (Wks.refl _) ?_ (fun _ _ => hc) hc.side; cbv) | ((with_reducible first | refine hA.fin_pl _ _ _ ?_); cbv) | ((with_reducible first | refine hA.sapp _ _ _ ⟨?_, fun sl hsl => ?_⟩); rotate_left; cbv) | (simp only [hA.lits]; cbv)
    all_goals try simp only [hA.ar, inR, n_cast, Int.ofNat_eq_natCast, Option.getD_some, Option.getD_none] at *
    refine hA.loopI (fun mm s => ∃ (k : Nat) (z a' b' : Int) (ds : List D), z = k ∧ 20 ≤ k ∧ (k = 20 ∨ k < 2 * c.length) ∧ mm = 2 * c.length - k ∧ ds = dsR (blk k c) ∧
        s = ⟨[(6, .int z), (0, .vec 0 n 1), (1, .int nn), (2, cmpD)], [.vec bb 1 ds]⟩) (2 * c.length - 20) _
      (Weak.keep (env' := [(6, .int 20), (0, .vec 0 n 1), (1, .int nn), (2, cmpD)]) ⟨rfl, rfl, rfl, rfl, trivial⟩) ⟨20, 20, 0, 0, ds2, rfl, by omega, .inl rfl, rfl, hds2, rfl⟩ ?_
    rintro mm2 s K2 ⟨k, z, _, _, dsk, hz, hk, hk2, hm2, hdk, rfl⟩ hK
    rcases Nat.lt_or_ge k n with hkn | hkn
    case inr =>
      have e2 : A.lt z nn = false := by rw [hA.lt]; exact decide_eq_false (by omega)
      have e3 : dsk = dsF := by rw [hdk, hdsF, blk_one (by omega) (by omega)]
      clear hK hdk hds2
      cbv
      repeat' first | with_reducible rfl | (simp only [e2]; cbv) | with_reducible refine And.intro ?_ ?_ | ((with_reducible intro hcc); first | (cases hcc; done) | skip) | ((with_reducible first | show goC _ _ _ _ _ _ _ _ | show goOps _ _ _ _ _ | show goD _ _ _ _ _ _); cbv) | ((with_reducible show okWr _ _ = _); rfl) | ((with_reducible first | refine hA.fin_pl _ _ _ ?_); cbv) | ((with_reducible first | refine hA.sapp _ _ _ ⟨?_, fun sl hsl => ?_⟩); rotate_left; cbv) | (simp only [hA.lits]; cbv)
      all_goals try simp only [hA.ar, inR, n_cast, Int.ofNat_eq_natCast, Option.getD_some, Option.getD_none] at *
      all_goals exact sp_fin hA hdsF rfl rfl e3 rfl
    case inl =>
      have e2 : A.lt z nn = true := by rw [hA.lt]; exact decide_eq_true (by omega)
      have hK2 : ∀ (env : List (Nat × D)) (ds' : List D), ds' = dsR (blk (2 * k) c) → subL [(6, .int (z * 2)), (0, .vec 0 n 1), (1, .int nn), (2, cmpD)] env → K2 ⟨env, [.vec bb 1 ds']⟩ := fun env ds' q1 q2 =>
        hK _ (2 * c.length - 2 * k) _ (by omega) (Weak.keep q2) ⟨2 * k, z * 2, 0, 0, ds', by omega, by omega, by omega, rfl, q1, rfl⟩
      clear hK hds2
      cbv
      repeat' first | with_reducible rfl | (simp only [e2]; cbv) | with_reducible refine And.intro ?_ ?_ | ((with_reducible intro hcc); first | (cases hcc; done) | skip) | ((with_reducible first | show goC _ _ _ _ _ _ _ _ | show goOps _ _ _ _ _ | show goD _ _ _ _ _ _); cbv) | ((with_reducible show okWr _ _ = _); rfl) | ((with_reducible first | refine hA.fin_pl _ _ _ ?_); cbv) | ((with_reducible first | refine hA.sapp _ _ _ ⟨?_, fun sl hsl => ?_⟩); rotate_left; cbv) | (simp only [hA.lits]; cbv)
      all_goals try simp only [hA.ar, inR, n_cast, Int.ofNat_eq_natCast, Option.getD_some, Option.getD_none] at *
      · omega
      refine hA.loopI (fun mm s => ∃ (X R Y : List Row) (a b : Int) (ds : List D), c = X ++ R ∧ a = X.length ∧ b = a + 2 * z ∧ mm = R.length ∧ Y.length = X.length ∧ (∀ R', blk (2 * k) (X ++ R') = Y ++ blk (2 * k) R') ∧ ds = dsR (Y ++ blk k R) ∧
          s = ⟨[(6, .int z), (7, .int a), (8, .int b), (0, .vec 0 n 1), (1, .int nn), (2, cmpD)], [.vec bb 1 ds]⟩) n _
        (Weak.keep (env' := [(6, .int z), (7, .int 0), (8, .int (2 * z)), (0, .vec 0 n 1), (1, .int nn), (2, cmpD)]) ⟨rfl, rfl, rfl, rfl, rfl, rfl, trivial⟩) ⟨[], c, [], 0, 2 * z, dsk, rfl, rfl, by omega, hn, rfl, fun R' => rfl, by rw [hdk]; rfl, rfl⟩ ?_
      rintro mm3 s K3 ⟨X, R, Y, a, b, ds3, hcX, ha, hb, hmm, hY, hpre, hd3, rfl⟩ hK
      have hcl : c.length = X.length + R.length := by rw [hcX]; simp
      rcases Int.lt_or_le nn b with hbn | hbn
      case inr =>
        have e3 : A.le b nn = true := by rw [hA.le]; exact decide_eq_true hbn
        obtain ⟨Z1, R1, rfl, z1, z2⟩ := split_at (A := R) (k := k) (by omega)
        rw [List.length_append] at hcl
        obtain ⟨Z2, R2, rfl, z3, z4⟩ := split_at (A := R1) (k := k) (by omega)
        rw [List.length_append] at hcl
        have hcz : ∀ r ∈ Z1 ++ Z2, Cl r := fun r hr => hcc0 r (by rw [hcX]; simp at hr ⊢; grind)
        have hR2 := blk_len (k := k) (by omega) _ R2 (Nat.le_refl _)
        obtain ⟨ds4, hds4⟩ : ∃ ds, ds = dsR ((Y ++ srt (Z1 ++ Z2)) ++ blk k R2) := ⟨_, rfl⟩
        have k1 : ∀ w, w = a + z → Proc Try.prog 191 (fun t => [.vec (t 0) n 1, .int a, .int w, .int b, cmpD]) (fun _ => [.vec bb 1 ds3]) (fun _ => .tup []) (fun _ => [.vec bb 1 ds4]) := fun w hw =>
          sp_hide (ok191 _ Y (srt Z1) (srt Z2) (blk k R2) (Nat.lt_succ_self _) (by rw [srt_len]; omega) (by rw [srt_len]; omega) (by simp [srt_len, hR2]; omega) (cl_two hcz) (stb_two hst hcX) (srt_srt _) (srt_srt _) _ _ _ (by omega) (by rw [srt_len]; omega) (by rw [srt_len, srt_len]; omega)) (by simp [srt_len, hR2]; omega)
            (by rw [hd3, blk_app (by omega) z1, blk_app (by omega) z3]) (by rw [hds4, srt_srt2 hcz]; simp) bb
        have k2 : ∀ env : List (Nat × D), subL [(6, .int z), (7, .int b), (8, .int (b + z * 2)), (0, .vec 0 n 1), (1, .int nn), (2, cmpD)] env → K3 ⟨env, [.vec bb 1 ds4]⟩ := fun env q =>
          hK _ R2.length _ (by simp at hmm; omega) (Weak.keep q) ⟨X ++ (Z1 ++ Z2), R2, Y ++ srt (Z1 ++ Z2), b, b + z * 2, ds4, by rw [hcX]; simp, by simp; omega, by omega, rfl, by simp [srt_len]; omega, (fun R' => by rw [List.append_assoc, hpre, blk_app (by omega) (by simp; omega)]; simp), hds4, rfl⟩
        have k2 : ∀ env : List (Nat × D), subL [(6, .int z), (7, .int b), (8, .int (b + 2 * z)), (0, .vec 0 n 1), (1, .int nn), (2, cmpD)] env → K3 ⟨env, [.vec bb 1 ds4]⟩ := fun env q => k2 env (by rw [Int.mul_comm z 2]; exact q)
        clear hK hpre hds4 hd3 hcX hdsF hK2 hdk
        cbv
        repeat' first | with_reducible rfl | (simp only [e3]; cbv) | with_reducible refine And.intro ?_ ?_ | ((with_reducible intro hcc); first | (cases hcc; done) | skip) | ((with_reducible first | show goC _ _ _ _ _ _ _ _ | show goOps _ _ _ _ _ | show goD _ _ _ _ _ _); cbv) | ((with_reducible show okWr _ _ = _); rfl) | ((with_reducible show A.call _ _ _ _ _ 191 _ _ _); have hc := k1 (A.add a z) (hA.add _ _); refine callK_pr hA hP [0] (by rfl) (by exact ⟨rfl, trivial⟩) (Wks.refl _) ?_ (fun _ _ => hc) hc.side; cbv) | ((with_reducible first | refine hA.fin_pl _ _ _ ?_); cbv) | ((with_reducible first | refine hA.sapp _ _ _ ⟨?_, fun sl hsl => ?_⟩); rotate_left; cbv) | (simp only [hA.lits]; cbv)
        all_goals try simp only [hA.ar, inR, n_cast, Int.ofNat_eq_natCast, Option.getD_some, Option.getD_none] at *
        all_goals first
          | exact k2 _ ⟨rfl, rfl, rfl, rfl, rfl, rfl, trivial⟩
          | omega
          | (trace_state; fail)
      case inl =>
        have e3 : A.le b nn = false := by rw [hA.le]; exact decide_eq_false (by omega)
        clear hK
        by_cases hm : a + z < nn
        · have e4 : A.lt (A.add a z) nn = true := by rw [hA.lt, hA.add]; exact decide_eq_true hm
          obtain ⟨Z1, Z2, rfl, z1, z2⟩ := split_at (A := R) (k := k) (by omega)
          rw [List.length_append] at hcl
          have hcz : ∀ r ∈ Z1 ++ Z2, Cl r := fun r hr => hcc0 r (by rw [hcX]; simp at hr ⊢; grind)
          obtain ⟨ds4, hds4⟩ : ∃ ds, ds = dsR (blk (2 * k) c) := ⟨_, rfl⟩
          have k1 : ∀ w, w = a + z → Proc Try.prog 191 (fun t => [.vec (t 0) n 1, .int a, .int w, .int nn, cmpD]) (fun _ => [.vec bb 1 ds3]) (fun _ => .tup []) (fun _ => [.vec bb 1 ds4]) := fun w hw =>
            sp_hide (ok191 _ Y (srt Z1) (srt Z2) [] (Nat.lt_succ_self _) (by rw [srt_len]; omega) (by rw [srt_len]; omega) (by simp [srt_len]; omega) (cl_two hcz) (stb_two (X := X) (R := []) hst (by rw [hcX]; simp)) (srt_srt _) (srt_srt _) _ _ _ (by omega) (by rw [srt_len]; omega) (by rw [srt_len, srt_len]; omega)) (by simp [srt_len]; omega)
              (by rw [hd3, blk_two (by omega) z1 (by omega)]; simp) (by rw [hds4, hcX, hpre, blk_one (by omega) (by simp; omega), srt_srt2 hcz]; simp) bb
          have k2 := fun env => hK2 env ds4 hds4
          clear hpre hds4 hd3 hcX hdsF hK2 hdk
          cbv
          repeat' first | with_reducible rfl | (simp only [e3, e4]; cbv) | with_reducible refine And.intro ?_ ?_ | ((with_reducible intro hcc); first | (cases hcc; done) | skip) | ((with_reducible first | show goC _ _ _ _ _ _ _ _ | show goOps _ _ _ _ _ | show goD _ _ _ _ _ _); cbv) | ((with_reducible show okWr _ _ = _); rfl) | ((with_reducible show A.call _ _ _ _ _ 191 _ _ _); have hc := k1 (A.add a z) (hA.add _ _); refine callK_pr hA hP [0] (by rfl) (by exact ⟨rfl, trivial⟩) (Wks.refl _) ?_ (fun _ _ => hc) hc.side; cbv) | ((with_reducible first | refine hA.fin_pl _ _ _ ?_); cbv) | ((with_reducible first | refine hA.sapp _ _ _ ⟨?_, fun sl hsl => ?_⟩); rotate_left; cbv) | (simp only [hA.lits]; cbv)
          all_goals try simp only [hA.ar, inR, n_cast, Int.ofNat_eq_natCast, Option.getD_some, Option.getD_none] at *
          all_goals first
            | exact k2 _ ⟨rfl, rfl, rfl, rfl, trivial⟩
            | omega
            | (trace_state; fail)
        · have e4 : A.lt (A.add a z) nn = false := by rw [hA.lt, hA.add]; exact decide_eq_false hm
          have e5 : ds3 = dsR (blk (2 * k) c) := by rw [hd3, hcX, hpre, blk_one (by omega) (show R.length ≤ k by omega), blk_one (by omega) (show R.length ≤ 2 * k by omega)]
          have k2 := fun env => hK2 env ds3 e5
          clear hpre e5 hd3 hcX hdsF hK2 hdk
          cbv
          repeat' first | with_reducible rfl | (simp only [e3, e4]; cbv) | with_reducible refine And.intro ?_ ?_ | ((with_reducible intro hcc); first | (cases hcc; done) | skip) | ((with_reducible first | show goC _ _ _ _ _ _ _ _ | show goOps _ _ _ _ _ | show goD _ _ _ _ _ _); cbv) | ((with_reducible show okWr _ _ = _); rfl) | ((with_reducible first | refine hA.fin_pl _ _ _ ?_); cbv) | ((with_reducible first | refine hA.sapp _ _ _ ⟨?_, fun sl hsl => ?_⟩); rotate_left; cbv) | (simp only [hA.lits]; cbv)
          all_goals try simp only [hA.ar, inR, n_cast, Int.ofNat_eq_natCast, Option.getD_some, Option.getD_none] at *
          all_goals first
            | exact k2 _ ⟨rfl, rfl, rfl, rfl, trivial⟩
            | omega
            | (trace_state; fail)
end Go.Proofs.Ytfplalbognalkaa.Ab.NS
/- Rows are sorted: the program's function. -/
namespace Go.Proofs.Ytfplalbognalkaa.Ab.NS
open Go
theorem ok109 (c : List Row) (hc : ∀ r ∈ c, Cl r) (hst : Stb c) (hlen : c.length ≤ 1073741824) : SP 109 [] c (srt c) := by
  intro bb
  refine procOf mixed p109 (sp_side (fun _ => rfl) fun _ => rfl) fun A Pr hA hP => ?_
  obtain ⟨n, hn⟩ : ∃ n, n = c.length := ⟨_, rfl⟩
  obtain ⟨ds0, hds0⟩ : ∃ ds, ds = dsR c := ⟨_, rfl⟩
  obtain ⟨dsF, hdsF⟩ : ∃ ds, ds = dsR (srt c) := ⟨_, rfl⟩
  rw [← hn, ← hds0, ← hdsF]
  have k1 : ∀ z : Int, z = n → Proc Try.prog 160 (fun t => [.vec (t 0) n 1, .int z, cmpD]) (fun _ => [.vec bb 1 ds0]) (fun _ => .tup []) (fun _ => [.vec bb 1 dsF]) := fun z hz =>
    sp_hide (ok160 c hc hst hlen (by omega)) hn hds0 hdsF bb
  cbv
  repeat' first | with_reducible rfl | with_reducible refine And.intro ?_ ?_ | ((with_reducible intro hcc); first | (cases hcc; done) | skip) | ((with_reducible first | show goC _ _ _ _ _ _ _ _ | show goOps _ _ _ _ _ | show goD _ _ _ _ _ _); cbv) | ((with_reducible show okWr _ _ = _); rfl) | ((with_reducible show A.call _ _ _ _ _ 160 _ _ _); have hc := k1 (↑n) rfl; refine callK_pr hA hP [0] (by rfl) (by exact ⟨rfl, trivial⟩) (Wks.refl _) ?_ (fun _ _ => hc) hc.side; cbv) | ((with_reducible first | refine hA.fin_pl _ _ _ ?_ | refine hA.len _ _ _ _ _ fun z hz hb => ?_); cbv) | (simp only [hA.lits]; cbv)
  all_goals try simp only [hA.ar, inR, n_cast, Int.ofNat_eq_natCast, Option.getD_some, Option.getD_none] at *
  all_goals first
    | exact sp_fin hA hdsF rfl rfl rfl rfl
    | omega
    | (trace_state; fail)
theorem dsR_e (c : List Row) : ∃ xs : List E, dsR c = xs.map .e := ⟨c.map fun r => .fs r.1 (r.2.map vr), by simp [dsR]⟩
/-- A new slice with the rows of another one. -/
abbrev NewR (fn : FuncId) (args : List D) (bb : Bool) (c c' : List Row) : Prop := Proc Try.prog fn (fun t => .vec (t 0) c.length 1 :: args) (fun _ => [.vec bb 1 (dsR c)]) (fun t => .vec (t 1) c'.length 1) (fun _ => [.vec bb 1 (dsR c), .vec (decide (0 < c'.length)) 1 (dsR c')])
theorem newR_side {args : List D} {bb b2 : Bool} {n m : Nat} {c c' c2 : List Row} (ha : ∀ t, rens t args = args) (hl : ∀ m, lts m args = true) : Side (fun t => .vec (t 0) n 1 :: args) (fun _ => [.vec bb 1 (dsR c)]) (fun t => .vec (t 1) m 1) (fun _ => [.vec bb 1 (dsR c2), .vec b2 1 (dsR c')]) :=
  ⟨fun t => by simp [rens, D.ren, ha], by simp [lts, D.lt, hl], fun t => by simp [O.ren, dsR_ren], by intro o ho; simp at ho; subst ho; simp [O.lt, dsR_lt], fun t => rfl, fun t => by simp [O.ren, dsR_ren], by simp⟩
theorem newR_fin {A : Ar} (hA : A.Ok) {bb b2 : Bool} {c' c2 : List Row} {m j : Nat} {l0 l' : List O} {ds1 ds2 : List D} {b3 : Bool} (hl : l0.length = 1) (h0 : hpF l' 0 = .vec bb 1 ds1) (h1 : hpF l' j = .vec b3 1 ds2) (hj : (0 == j) = false) (hb : b3 = b2) (hd1 : ds1 = dsR c2) (hd2 : ds2 = dsR c') {ds1' ds2' : List D} (hd1' : ds1' = dsR c2) (hd2' : ds2' = dsR c') : A.finv l0 l' (.vec j m 1) [.vec bb 1 ds1', .vec b2 1 ds2'] (.vec 1 m 1) := by
  subst hb; subst hd1; subst hd2; subst hd1'; subst hd2'
  exact hA.finv _ _ _ _ _ (FinV.ren [0, j] (fun _ => [.vec bb 1 (dsR c2), .vec b3 1 (dsR c')]) (fun t => .vec (t 1) m 1) (by rw [hl]; simp [ndB, firstB]; simpa using hj) (.inl rfl) ⟨h0, h1, trivial⟩ (fun t => rfl) rfl (fun t => by simp [O.ren, dsR_ren])
    (by intro o ho; simp at ho; rcases ho with rfl | rfl <;> simp [O.lt, dsR_lt]))
set_option maxRecDepth 100000 in
theorem ok108 (c : List Row) (hlen : c.length ≤ 1073741824) : NewR 108 [] true c c := by
  refine procOf mixed p108 (newR_side (fun _ => rfl) fun _ => rfl) fun A Pr hA hP => ?_
  obtain ⟨n, hn⟩ : ∃ n, n = c.length := ⟨_, rfl⟩
  obtain ⟨ds0, hds0⟩ : ∃ ds, ds = dsR c := ⟨_, rfl⟩
  obtain ⟨b0, hb0⟩ : ∃ b, b = decide (0 < n) := ⟨_, rfl⟩
  rw [← hn, ← hds0, ← hb0]
  cbv
  repeat' first | with_reducible rfl | with_reducible refine And.intro ?_ ?_ | ((with_reducible intro hcc); first | (cases hcc; done) | skip) | ((with_reducible first | show goC _ _ _ _ _ _ _ _ | show goOps _ _ _ _ _ | show goD _ _ _ _ _ _); cbv) | ((with_reducible show okWr _ _ = _); rfl) | ((with_reducible first | refine hA.fin_pl _ _ _ ?_ | refine hA.alt _ _ (Or.inl ?_)); cbv) | ((with_reducible first | refine hA.app _ _ _ _ _ ⟨?_, fun zs m hzs hm => ?_⟩ | refine hA.app0 _ _ _ ⟨?_, fun m hm => ?_⟩ | refine hA.appv _ _ _ _ _ _ ⟨?_, fun bb m ds hbb hm hds => ?_⟩ | refine hA.vcut _ _ _ _ ⟨?_, fun cs hcs => ?_⟩ | refine hA.appw _ _ _ _ _ _ _ ⟨?_, fun bb m ds hbb hm hds => ?_⟩); rotate_left; cbv) | (simp only [hA.lits]; cbv)
  all_goals try simp only [hA.ar, inR, n_cast, Int.ofNat_eq_natCast, Option.getD_some, Option.getD_none] at *
  all_goals first
    | (have e1 : m = n := (by omega)
       have e2 : ds = dsR c := (by rw [hds, hcs, hds0, show (dsR c).take (n * 1) = dsR c from List.take_of_length_le (by rw [dsR_len]; omega)]; rfl)
       have e3 : bb = b0 := (by rw [hbb, hb0, Bool.false_or])
       rw [e1]
       exact newR_fin hA rfl rfl rfl rfl e3 hds0 e2 hds0 hds0)
    | (rw [hds0, List.take_of_length_le (by rw [dsR_len]; omega)]; exact dsR_e c)
    | omega
    | (trace_state; fail)
set_option maxRecDepth 100000 in
theorem ok54 (c : List Row) (hc : ∀ r ∈ c, Cl r) (hst : Stb c) (hlen : c.length ≤ 1073741824) : NewR 54 [cmpD] true c (srt c) := by
  refine procOf mixed p54 (newR_side (fun _ => rfl) fun _ => rfl) fun A Pr hA hP => ?_
  obtain ⟨n, hn⟩ : ∃ n, n = c.length := ⟨_, rfl⟩
  obtain ⟨ds0, hds0⟩ : ∃ ds, ds = dsR c := ⟨_, rfl⟩
  obtain ⟨b0, hb0⟩ : ∃ b, b = decide (0 < n) := ⟨_, rfl⟩
  obtain ⟨dsF, hdsF⟩ : ∃ ds, ds = dsR (srt c) := ⟨_, rfl⟩
  have h97 : Proc Try.prog 108 (fun t => [.vec (t 0) n 1]) (fun _ => [.vec true 1 ds0]) (fun t => .vec (t 1) n 1) (fun _ => [.vec true 1 ds0, .vec b0 1 ds0]) := by
    have := ok108 c hlen
    rw [NewR, ← hn, ← hds0, ← hb0] at this
    exact this
  have h98 : Proc Try.prog 109 (fun t => [.vec (t 0) n 1, cmpD]) (fun _ => [.vec b0 1 ds0]) (fun _ => .tup []) (fun _ => [.vec b0 1 dsF]) := sp_hide (ok109 c hc hst hlen) hn hds0 hdsF b0
  rw [srt_len, ← hn, ← hds0, ← hb0, ← hdsF]
  cbv
  repeat' first | with_reducible rfl | with_reducible refine And.intro ?_ ?_ | ((with_reducible intro hcc); first | (cases hcc; done) | skip) | ((with_reducible first | show goC _ _ _ _ _ _ _ _ | show goOps _ _ _ _ _ | show goD _ _ _ _ _ _); cbv) | ((with_reducible show okWr _ _ = _); rfl) | ((with_reducible show A.call _ _ _ _ _ 108 _ _ _); have hc := h97; refine callK_pr hA hP [0] (by rfl) (by exact ⟨rfl, trivial⟩) (Wks.refl _) ?_ (fun _ _ => hc) hc.side; cbv) | ((with_reducible show A.call _ _ _ _ _ 109 _ _ _); have hc := h98; refine callK_pr hA hP [1] (by rfl) (by exact ⟨rfl, trivial⟩) (Wks.refl _) ?_ (fun _ _ => hc) hc.side; cbv) | ((with_reducible first | refine hA.fin_pl _ _ _ ?_); cbv) | (simp only [hA.lits]; cbv)
  all_goals try simp only [hA.ar, inR, n_cast, Int.ofNat_eq_natCast, Option.getD_some, Option.getD_none] at *
  all_goals first
    | exact newR_fin hA rfl rfl rfl rfl rfl hds0 hdsF hds0 hdsF
    | omega
    | (trace_state; fail)
end Go.Proofs.Ytfplalbognalkaa.Ab.NS
/- The program's sort of rows, with numbers. -/
namespace Go.Proofs.Ytfplalbognalkaa.Ab.NS
open Go
theorem tok_side {es : List E} {q0 q1 : Nat} {e : E} : Side (fun _ => es.map .e) (fun _ => [.ids q0]) (fun _ => .e e) (fun _ => [.ids q1]) :=
  ⟨fun t => by rw [rens_e], by rw [lts_e], fun t => rfl, by intro o ho; rw [List.mem_singleton] at ho; subst ho; rfl, fun t => rfl, fun t => rfl, Nat.le_refl _⟩
def clR (r : Ab.Row) : Ab.Row := r.map clean
theorem clR_cl (r : Ab.Row) : Ab.Cl (clR r) := fun v hv h => by
  obtain ⟨p, _, rfl⟩ := List.mem_map.1 hv
  unfold clean at h ⊢
  split <;> simp_all
set_option maxRecDepth 100000 in
set_option maxHeartbeats 1000000 in
theorem ok53 (q0 : Nat) (l : Ab.Row) (es : List (List E)) (he : es = l.map vr) (hlen : es.length ≤ 1048576) : Proc Try.prog 53 (fun _ => [.e (.sl es)]) (fun _ => [.ids q0]) (fun _ => .e (.fs q0 ((clR l).map vr))) (fun _ => [.ids (q0 + 1)]) := procOf mixed p53 (tok_side (es := [.sl es])) fun A P hA hP => (by
  have hl1 : es.length = l.length := by rw [he]; simp
  obtain ⟨ts, hts⟩ : ∃ ts, ts = (clR l).map vr := ⟨_, rfl⟩
  have hl2 : ts.length = es.length := by rw [hts, hl1, clR]; simp
  have hes : ∀ e ∈ ts, e.length = 2 := by
    rw [hts]
    intro e h
    obtain ⟨p, _, rfl⟩ := List.mem_map.1 h
    rfl
  rw [← hts]
  cbv
  repeat' first | with_reducible rfl | with_reducible refine And.intro ?_ ?_ | ((with_reducible intro hcc); first | (cases hcc; done) | skip) | ((with_reducible first | show goC _ _ _ _ _ _ _ _ | show goOps _ _ _ _ _ | show goD _ _ _ _ _ _); cbv) | ((with_reducible show okWr _ _ = _); rfl) | ((with_reducible first | refine hA.fin_pl _ _ _ ?_ | refine hA.len _ _ _ _ _ fun z hz hb => ?_ | refine hA.off _ _ _ _ fun b hb => ?_ | refine hA.rep _ _ _ fun ds m hds hm => ?_ | refine hA.alt _ _ (Or.inl ?_)); cbv) | ((with_reducible first | refine hA.st _ _ _ _ _ ⟨?_, fun ds hds => ?_⟩ | refine hA.sapp _ _ _ ⟨?_, fun sl hsl => ?_⟩); rotate_left; cbv) | (simp only [hA.lits]; cbv)
  all_goals try simp only [hA.ar, inR, n_cast, Int.ofNat_eq_natCast, Option.getD_some, Option.getD_none] at *
  · omega
  · omega
  · refine hA.loopI (fun n s => ∃ (i : Int) (xs : List (List E)), 0 ≤ i ∧ n + i = es.length ∧ xs.length = es.length ∧ (∀ e ∈ xs, e.length = 2) ∧ (∀ j : Nat, j < i → xs[j]? = ts[j]?) ∧
        s = ⟨[(11, .int i), (10, .int z), (9, .e (.sl es)), (3, .bs 1 0 m 2), (2, .zs)], [.ids q0, .box (xs.flatten.map .e)]⟩) es.length _
      (Weak.keep (env' := [(11, .int 0), (10, .int z), (9, .e (.sl es)), (3, .bs 1 0 m 2), (2, .zs)]) ⟨rfl, rfl, rfl, rfl, rfl, trivial⟩)
      ⟨0, List.replicate m [E.bool false, E.int 0], by omega, by omega, by simp; omega, by simp, fun j hj => by omega, by rw [← buf_zero, hm]; rw [hds]; rfl⟩ ?_
    rintro n s K ⟨i, xs, h0, h1, h2, h3, h4, rfl⟩ hK
    obtain ⟨ys, hys⟩ : ∃ ys, ys = xs.flatten.map D.e := ⟨_, rfl⟩
    have hyl : ys.length = xs.length * 2 := by rw [hys, List.length_map, flatten_len h3]
    rw [← hys]
    by_cases hin : (0 : Int) ≤ i ∧ i < es.length
    · obtain ⟨⟨b1, v1⟩, e1, q1⟩ := row_val he hin
      obtain ⟨⟨b2, v2⟩, hcl⟩ : ∃ q, q = clean (b1, v1) := ⟨_, rfl⟩
      have h96 : Plain Try.prog 107 [dVal b1 v1] (dVal b2 v2) := by have := ok107 b1 v1; rw [← hcl] at this; exact this
      have hrow : ts[i.toNat]? = some [E.bool b2, E.int v2] := by
        have q2 : l[i.toNat]? = some (b1, v1) := by
          have h : i.toNat < l.length := by omega
          have e2 : es.getD i.toNat [] = vr l[i.toNat] := by rw [he]; simp [List.getD, h]
          rw [e2] at e1
          simp only [vr, List.cons.injEq, E.v.injEq, Value.bool.injEq, Value.int.injEq, true_and, and_true] at e1
          rw [List.getElem?_eq_getElem h]
          exact congrArg some (Prod.ext e1.1 e1.2)
        rw [hts, clR, List.map_map, List.getElem?_map, q2]
        simp [← hcl]
      clear hcl he hts
      cbv
      repeat' first | with_reducible rfl | with_reducible refine And.intro ?_ ?_ | ((with_reducible intro hcc); first | (cases hcc; done) | skip) | ((with_reducible first | show goC _ _ _ _ _ _ _ _ | show goOps _ _ _ _ _ | show goD _ _ _ _ _ _); cbv) | ((with_reducible show okWr _ _ = _); rfl) | ((with_reducible first | refine callK_f hA hP h96 ?_ ?_ ?_); exact rfl; exact rfl; cbv) | ((with_reducible refine hA.row es _ _ ⟨hin, fun row hrow => ?_⟩); rw [e1] at hrow; subst hrow; cbv) | ((with_reducible first | refine hA.fin_pl _ _ _ ?_ | refine hA.len _ _ _ _ _ fun z hz hb => ?_ | refine hA.off _ _ _ _ fun b hb => ?_ | refine hA.rep _ _ _ fun ds m hds hm => ?_ | refine hA.alt _ _ (Or.inl ?_)); cbv) | ((with_reducible first | refine hA.st _ _ _ _ _ ⟨?_, fun ds hds => ?_⟩ | refine hA.sapp _ _ _ ⟨?_, fun sl hsl => ?_⟩); rotate_left; cbv) | (simp only [hA.lits]; cbv)
      all_goals try simp only [hA.ar, inR, n_cast, Int.ofNat_eq_natCast, Option.getD_some, Option.getD_none] at *
      all_goals first
        | (show _ < (m : Int); omega)
        | omega
        | (have hb' : b = i.toNat * 2 := by omega
           refine hK _ (n - 1) _ (by omega) (Weak.ren (l0 := [.ids q0]) [0, 1] (fun t => [(11, .int (i + 1)), (10, .int z), (9, .e (.sl es)), (3, .bs (t 1) 0 m 2), (2, .zs)]) (fun _ => [.ids q0, .box ((xs.set i.toNat [E.bool b2, E.int v2]).flatten.map .e)]) rfl
               ⟨.inl rfl, .inl rfl, .inl rfl, .inl rfl, .inl rfl, trivial⟩ ⟨rfl, ?_, trivial⟩ ⟨fun t => rfl, rfl, fun t => by simp only [List.map_cons, List.map_nil, O.ren, rens_e], by intro o ho; simp only [List.mem_cons, List.not_mem_nil, or_false] at ho; rcases ho with rfl | rfl <;> simp only [O.lt, lts_e]⟩)
             ⟨i + 1, xs.set i.toNat [E.bool b2, E.int v2], by omega, by omega, by simp [h2], fun e h => ?_, fun j hj => ?_, rfl⟩
           · show O.box _ = O.box _
             congr 1
             rw [hds, hys, hb']
             exact buf_set (k := 2) (by omega) h3 (i := i.toNat) (show i.toNat < xs.length by omega) (r := [E.bool b2, E.int v2]) rfl
           · rcases List.mem_or_eq_of_mem_set h with h | rfl
             · exact h3 e h
             · rfl
           · by_cases hji : (j : Int) < i
             · rw [List.getElem?_set_ne (show i.toNat ≠ j by omega)]; exact h4 j hji
             · have : j = i.toNat := by omega
               subst this
               rw [List.getElem?_set_self (show i.toNat < xs.length by omega), hrow])
        | (clear hK h4; simp at *; omega)
        | (trace_state; fail)
    · have hxe : xs = ts := by
        refine List.ext_getElem? fun j => ?_
        by_cases hj : (j : Int) < i
        · exact h4 j hj
        · rw [List.getElem?_eq_none (by omega), List.getElem?_eq_none (by omega)]
      cbv
      repeat' first | with_reducible rfl | with_reducible refine And.intro ?_ ?_ | ((with_reducible intro hcc); first | (cases hcc; done) | skip) | ((with_reducible first | show goC _ _ _ _ _ _ _ _ | show goOps _ _ _ _ _ | show goD _ _ _ _ _ _); cbv) | ((with_reducible show okWr _ _ = _); rfl) | (exfalso; simp only [hA.lt, hA.sub, decide_eq_true_eq, decide_eq_false_iff_not, n_cast] at *; omega) | ((with_reducible refine hA.finv _ _ _ _ _ (finv_bsFs (t := 0) (es := ts) rfl ?_ ?_ hes))) | ((with_reducible first | refine hA.fin_pl _ _ _ ?_ | refine hA.len _ _ _ _ _ fun z hz hb => ?_ | refine hA.off _ _ _ _ fun b hb => ?_ | refine hA.rep _ _ _ fun ds m hds hm => ?_ | refine hA.alt _ _ (Or.inl ?_)); cbv) | ((with_reducible first | refine hA.st _ _ _ _ _ ⟨?_, fun ds hds => ?_⟩ | refine hA.sapp _ _ _ ⟨?_, fun sl hsl => ?_⟩); rotate_left; cbv) | (simp only [hA.lits]; cbv)
      all_goals try simp only [hA.ar, inR, n_cast, Int.ofNat_eq_natCast, Option.getD_some, Option.getD_none] at *
      all_goals first
        | (rw [hys, hxe]; rfl)
        | omega
        | (clear hK h4 he; grind; done)
        | (trace_state; fail))
end Go.Proofs.Ytfplalbognalkaa.Ab.NS
/- The code of functions, in the small language. -/
namespace Go.Proofs.Ytfplalbognalkaa.Ab
open Go
def c28 : F := ⟨12, [(.tmp 4)], (.seq (.reg [⟨(some 2), none, (.box (.s 0))⟩, ⟨(some 4), none, (.mov (.c (.int 0)))⟩]) (.seq (.reg [⟨(some 5), none, (.fadr 0 (.s 2))⟩, ⟨(some 6), none, (.load false 1 (.s 5))⟩, ⟨(some 7), none, (.mov (.s 1))⟩, ⟨(some 8), none, (.call 72 [(.s 6), (.s 7)])⟩, ⟨(some 1), none, (.mov (.s 8))⟩]) (.seq (.seq (.reg [⟨(some 9), none, (.mov (.s 1))⟩, ⟨(some 10), none, (.bin .lss (.s 9) (.c (.int 0)))⟩]) (.cond (.s 10) (.seq (.reg [⟨(some 4), none, (.mov (.c (.int (-1))))⟩]) .ret) .skip)) (.seq (.reg [⟨(some 11), none, (.mov (.s 1))⟩, ⟨(some 4), none, (.mov (.s 11))⟩]) .ret))))⟩
theorem p28 : prepF Try.prog 28 = some c28 := by kernel_rfl
def c31 : F := ⟨9, [(.cell 2 true 1)], (.seq (.reg [⟨(some 1), none, (.box (.s 0))⟩, ⟨(some 2), none, (.alloc [(.e (.sl []))])⟩]) (.seq (.reg [⟨(some 3), none, (.alloc [(.e (.sl []))])⟩]) (.seq (.reg [⟨(some 4), none, (.fadr 0 (.s 1))⟩, ⟨(some 5), none, (.load false 1 (.s 4))⟩, ⟨(some 6), none, (.call 76 [(.s 5)])⟩, ⟨(some 7), none, (.fadr 0 (.s 3))⟩, ⟨none, none, (.store false 1 (.s 7) (.s 6))⟩]) (.seq (.reg [⟨(some 8), none, (.load true 1 (.s 3))⟩, ⟨none, none, (.store true 1 (.s 2) (.s 8))⟩]) .ret))))⟩
theorem p31 : prepF Try.prog 31 = some c31 := by kernel_rfl
def c34 : F := ⟨11, [(.tmp 4)], (.seq (.reg [⟨(some 2), none, (.box (.s 0))⟩, ⟨(some 3), none, (.box (.s 1))⟩, ⟨(some 4), none, (.mov (.c (.bool false)))⟩]) (.seq (.seq (.reg [⟨(some 5), none, (.fadr 0 (.s 2))⟩, ⟨(some 6), none, (.load false 1 (.s 5))⟩, ⟨(some 7), none, (.fadr 0 (.s 3))⟩, ⟨(some 8), none, (.load false 1 (.s 7))⟩, ⟨(some 9), none, (.call 79 [(.s 6), (.s 8)])⟩, ⟨(some 10), none, (.un .not (.s 9))⟩]) (.cond (.s 10) (.seq (.reg [⟨(some 4), none, (.mov (.c (.bool false)))⟩]) .ret) .skip)) (.seq (.reg [⟨(some 4), none, (.mov (.c (.bool true)))⟩]) .ret)))⟩
theorem p34 : prepF Try.prog 34 = some c34 := by kernel_rfl
def c16 : F := ⟨27, [(.tmp 4)], (.seq (.reg [⟨(some 4), none, (.mov (.c (.int 0)))⟩]) (.seq (.reg [⟨(some 6), none, (.mov (.s 1))⟩, ⟨(some 7), none, (.mov (.s 0))⟩, ⟨(some 8), none, (.lenl (.s 7))⟩, ⟨(some 9), none, (.bin .sub (.s 6) (.s 8))⟩, ⟨(some 1), none, (.mov (.s 9))⟩]) (.seq (.seq (.reg [⟨(some 10), none, (.mov (.s 1))⟩, ⟨(some 11), none, (.bin .lss (.s 10) (.c (.int 0)))⟩]) (.cond (.s 11) (.seq (.reg [⟨(some 4), none, (.mov (.c (.int (-1))))⟩]) .ret) .skip)) (.seq (.seq (.reg [⟨(some 5), none, (.mov (.c (.int 0)))⟩]) (.block 0 (.loop (.seq (.seq (.reg [⟨(some 12), none, (.mov (.s 5))⟩, ⟨(some 13), none, (.mov (.s 0))⟩, ⟨(some 14), none, (.lenl (.s 13))⟩, ⟨(some 15), none, (.bin .lss (.s 12) (.s 14))⟩]) (.cond (.s 15) .skip (.exit 0))) (.seq (.block 1 (.seq (.reg [⟨(some 18), none, (.mov (.s 0))⟩, ⟨(some 19), none, (.mov (.s 5))⟩, ⟨(some 20), none, (.iadr none 1 (.s 18) (.s 19))⟩, ⟨(some 21), none, (.load false 1 (.s 20))⟩, ⟨(some 22), none, (.mov (.s 1))⟩, ⟨(some 23), none, (.call 57 [(.s 21), (.s 22)])⟩, ⟨(some 1), none, (.mov (.s 23))⟩]) (.seq (.reg [⟨(some 24), none, (.mov (.s 1))⟩, ⟨(some 25), none, (.bin .lss (.s 24) (.c (.int 0)))⟩]) (.cond (.s 25) (.seq (.reg [⟨(some 4), none, (.mov (.c (.int (-1))))⟩]) .ret) .skip)))) (.reg [⟨(some 16), none, (.mov (.s 5))⟩, ⟨(some 17), none, (.bin .add (.s 16) (.c (.int 1)))⟩, ⟨(some 5), none, (.mov (.s 17))⟩])))))) (.seq (.reg [⟨(some 26), none, (.mov (.s 1))⟩, ⟨(some 4), none, (.mov (.s 26))⟩]) .ret)))))⟩
theorem p16 : prepF Try.prog 16 = some c16 := by kernel_rfl
def c18 : F := ⟨23, [(.tmp 2)], (.seq (.reg [⟨(some 2), none, (.mov (.c .zs))⟩]) (.seq (.reg [⟨(some 5), none, (.mov (.s 0))⟩, ⟨(some 6), none, (.lenl (.s 5))⟩, ⟨(some 7), none, (.mks [(.e (.sl []))] (.s 6))⟩, ⟨(some 3), none, (.mov (.s 7))⟩]) (.seq (.seq (.reg [⟨(some 4), none, (.mov (.c (.int 0)))⟩]) (.block 0 (.loop (.seq (.seq (.reg [⟨(some 8), none, (.mov (.s 4))⟩, ⟨(some 9), none, (.mov (.s 0))⟩, ⟨(some 10), none, (.lenl (.s 9))⟩, ⟨(some 11), none, (.bin .lss (.s 8) (.s 10))⟩]) (.cond (.s 11) .skip (.exit 0))) (.seq (.block 1 (.reg [⟨(some 14), none, (.mov (.s 3))⟩, ⟨(some 15), none, (.mov (.s 4))⟩, ⟨(some 16), none, (.mov (.s 0))⟩, ⟨(some 17), none, (.mov (.s 4))⟩, ⟨(some 18), none, (.iadr none 1 (.s 16) (.s 17))⟩, ⟨(some 19), none, (.load false 1 (.s 18))⟩, ⟨(some 20), none, (.call 58 [(.s 19)])⟩, ⟨(some 21), none, (.iadr none 1 (.s 14) (.s 15))⟩, ⟨none, none, (.store false 1 (.s 21) (.s 20))⟩])) (.reg [⟨(some 12), none, (.mov (.s 4))⟩, ⟨(some 13), none, (.bin .add (.s 12) (.c (.int 1)))⟩, ⟨(some 4), none, (.mov (.s 13))⟩])))))) (.seq (.reg [⟨(some 22), none, (.mov (.s 3))⟩, ⟨(some 2), none, (.mov (.s 22))⟩]) .ret))))⟩
theorem p18 : prepF Try.prog 18 = some c18 := by kernel_rfl
def c19 : F := ⟨27, [(.tmp 4)], (.seq (.reg [⟨(some 4), none, (.mov (.c (.bool false)))⟩]) (.seq (.seq (.reg [⟨(some 6), none, (.mov (.s 0))⟩, ⟨(some 7), none, (.lenl (.s 6))⟩, ⟨(some 8), none, (.mov (.s 1))⟩, ⟨(some 9), none, (.lenl (.s 8))⟩, ⟨(some 10), none, (.bin .neq (.s 7) (.s 9))⟩]) (.cond (.s 10) (.seq (.reg [⟨(some 4), none, (.mov (.c (.bool false)))⟩]) .ret) .skip)) (.seq (.seq (.reg [⟨(some 5), none, (.mov (.c (.int 0)))⟩]) (.block 0 (.loop (.seq (.seq (.reg [⟨(some 11), none, (.mov (.s 5))⟩, ⟨(some 12), none, (.mov (.s 0))⟩, ⟨(some 13), none, (.lenl (.s 12))⟩, ⟨(some 14), none, (.bin .lss (.s 11) (.s 13))⟩]) (.cond (.s 14) .skip (.exit 0))) (.seq (.block 1 (.seq (.dreg [⟨⟨(some 17), none, (.mov (.s 0))⟩, [], [0]⟩, ⟨⟨(some 18), none, (.mov (.s 5))⟩, [0], [5]⟩, ⟨⟨(some 19), none, (.iadr none 1 (.s 17) (.s 18))⟩, [], [17, 18]⟩, ⟨⟨(some 20), none, (.load false 1 (.s 19))⟩, [], [19]⟩, ⟨⟨(some 21), none, (.mov (.s 1))⟩, [0, 1, 2, 3], [1]⟩, ⟨⟨(some 22), none, (.mov (.s 5))⟩, [0, 1, 2, 3, 4], [5]⟩, ⟨⟨(some 23), none, (.iadr none 1 (.s 21) (.s 22))⟩, [0, 1, 2, 3], [21, 22]⟩, ⟨⟨(some 24), none, (.load false 1 (.s 23))⟩, [0, 1, 2, 3], [23]⟩, ⟨⟨(some 25), none, (.call 59 [(.s 20), (.s 24)])⟩, [], [20, 24]⟩, ⟨⟨(some 26), none, (.un .not (.s 25))⟩, [], [25]⟩]) (.cond (.s 26) (.seq (.reg [⟨(some 4), none, (.mov (.c (.bool false)))⟩]) .ret) .skip))) (.reg [⟨(some 15), none, (.mov (.s 5))⟩, ⟨(some 16), none, (.bin .add (.s 15) (.c (.int 1)))⟩, ⟨(some 5), none, (.mov (.s 16))⟩])))))) (.seq (.reg [⟨(some 4), none, (.mov (.c (.bool true)))⟩]) .ret))))⟩
theorem p19 : prepF Try.prog 19 = some c19 := by kernel_rfl
def c72 : F := ⟨27, [(.tmp 4)], (.seq (.reg [⟨(some 4), none, (.mov (.c (.int 0)))⟩]) (.seq (.reg [⟨(some 6), none, (.mov (.s 1))⟩, ⟨(some 7), none, (.mov (.s 0))⟩, ⟨(some 8), none, (.lenl (.s 7))⟩, ⟨(some 9), none, (.bin .sub (.s 6) (.s 8))⟩, ⟨(some 1), none, (.mov (.s 9))⟩]) (.seq (.seq (.reg [⟨(some 10), none, (.mov (.s 1))⟩, ⟨(some 11), none, (.bin .lss (.s 10) (.c (.int 0)))⟩]) (.cond (.s 11) (.seq (.reg [⟨(some 4), none, (.mov (.c (.int (-1))))⟩]) .ret) .skip)) (.seq (.seq (.reg [⟨(some 5), none, (.mov (.c (.int 0)))⟩]) (.block 0 (.loop (.seq (.seq (.reg [⟨(some 12), none, (.mov (.s 5))⟩, ⟨(some 13), none, (.mov (.s 0))⟩, ⟨(some 14), none, (.lenl (.s 13))⟩, ⟨(some 15), none, (.bin .lss (.s 12) (.s 14))⟩]) (.cond (.s 15) .skip (.exit 0))) (.seq (.block 1 (.seq (.reg [⟨(some 18), none, (.mov (.s 0))⟩, ⟨(some 19), none, (.mov (.s 5))⟩, ⟨(some 20), none, (.iadr none 3 (.s 18) (.s 19))⟩, ⟨(some 21), none, (.load true 3 (.s 20))⟩, ⟨(some 22), none, (.mov (.s 1))⟩, ⟨(some 23), none, (.call 127 [(.s 21), (.s 22)])⟩, ⟨(some 1), none, (.mov (.s 23))⟩]) (.seq (.reg [⟨(some 24), none, (.mov (.s 1))⟩, ⟨(some 25), none, (.bin .lss (.s 24) (.c (.int 0)))⟩]) (.cond (.s 25) (.seq (.reg [⟨(some 4), none, (.mov (.c (.int (-1))))⟩]) .ret) .skip)))) (.reg [⟨(some 16), none, (.mov (.s 5))⟩, ⟨(some 17), none, (.bin .add (.s 16) (.c (.int 1)))⟩, ⟨(some 5), none, (.mov (.s 17))⟩])))))) (.seq (.reg [⟨(some 26), none, (.mov (.s 1))⟩, ⟨(some 4), none, (.mov (.s 26))⟩]) .ret)))))⟩
theorem p72 : prepF Try.prog 72 = some c72 := by kernel_rfl
def c76 : F := ⟨23, [(.tmp 2)], (.seq (.reg [⟨(some 2), none, (.mov (.c .zs))⟩]) (.seq (.reg [⟨(some 5), none, (.mov (.s 0))⟩, ⟨(some 6), none, (.lenl (.s 5))⟩, ⟨(some 7), none, (.mks [(.str []), (.int 0), (.e (.sl []))] (.s 6))⟩, ⟨(some 3), none, (.mov (.s 7))⟩]) (.seq (.seq (.reg [⟨(some 4), none, (.mov (.c (.int 0)))⟩]) (.block 0 (.loop (.seq (.seq (.reg [⟨(some 8), none, (.mov (.s 4))⟩, ⟨(some 9), none, (.mov (.s 0))⟩, ⟨(some 10), none, (.lenl (.s 9))⟩, ⟨(some 11), none, (.bin .lss (.s 8) (.s 10))⟩]) (.cond (.s 11) .skip (.exit 0))) (.seq (.block 1 (.reg [⟨(some 14), none, (.mov (.s 3))⟩, ⟨(some 15), none, (.mov (.s 4))⟩, ⟨(some 16), none, (.mov (.s 0))⟩, ⟨(some 17), none, (.mov (.s 4))⟩, ⟨(some 18), none, (.iadr none 3 (.s 16) (.s 17))⟩, ⟨(some 19), none, (.load true 3 (.s 18))⟩, ⟨(some 20), none, (.call 134 [(.s 19)])⟩, ⟨(some 21), none, (.iadr none 3 (.s 14) (.s 15))⟩, ⟨none, none, (.store true 3 (.s 21) (.s 20))⟩])) (.reg [⟨(some 12), none, (.mov (.s 4))⟩, ⟨(some 13), none, (.bin .add (.s 12) (.c (.int 1)))⟩, ⟨(some 4), none, (.mov (.s 13))⟩])))))) (.seq (.reg [⟨(some 22), none, (.mov (.s 3))⟩, ⟨(some 2), none, (.mov (.s 22))⟩]) .ret))))⟩
theorem p76 : prepF Try.prog 76 = some c76 := by kernel_rfl
def c79 : F := ⟨27, [(.tmp 4)], (.seq (.reg [⟨(some 4), none, (.mov (.c (.bool false)))⟩]) (.seq (.seq (.reg [⟨(some 6), none, (.mov (.s 0))⟩, ⟨(some 7), none, (.lenl (.s 6))⟩, ⟨(some 8), none, (.mov (.s 1))⟩, ⟨(some 9), none, (.lenl (.s 8))⟩, ⟨(some 10), none, (.bin .neq (.s 7) (.s 9))⟩]) (.cond (.s 10) (.seq (.reg [⟨(some 4), none, (.mov (.c (.bool false)))⟩]) .ret) .skip)) (.seq (.seq (.reg [⟨(some 5), none, (.mov (.c (.int 0)))⟩]) (.block 0 (.loop (.seq (.seq (.reg [⟨(some 11), none, (.mov (.s 5))⟩, ⟨(some 12), none, (.mov (.s 0))⟩, ⟨(some 13), none, (.lenl (.s 12))⟩, ⟨(some 14), none, (.bin .lss (.s 11) (.s 13))⟩]) (.cond (.s 14) .skip (.exit 0))) (.seq (.block 1 (.seq (.dreg [⟨⟨(some 17), none, (.mov (.s 0))⟩, [], [0]⟩, ⟨⟨(some 18), none, (.mov (.s 5))⟩, [0], [5]⟩, ⟨⟨(some 19), none, (.iadr none 3 (.s 17) (.s 18))⟩, [], [17, 18]⟩, ⟨⟨(some 20), none, (.load true 3 (.s 19))⟩, [], [19]⟩, ⟨⟨(some 21), none, (.mov (.s 1))⟩, [0, 1, 2, 3], [1]⟩, ⟨⟨(some 22), none, (.mov (.s 5))⟩, [0, 1, 2, 3, 4], [5]⟩, ⟨⟨(some 23), none, (.iadr none 3 (.s 21) (.s 22))⟩, [0, 1, 2, 3], [21, 22]⟩, ⟨⟨(some 24), none, (.load true 3 (.s 23))⟩, [0, 1, 2, 3], [23]⟩, ⟨⟨(some 25), none, (.call 139 [(.s 20), (.s 24)])⟩, [], [20, 24]⟩, ⟨⟨(some 26), none, (.un .not (.s 25))⟩, [], [25]⟩]) (.cond (.s 26) (.seq (.reg [⟨(some 4), none, (.mov (.c (.bool false)))⟩]) .ret) .skip))) (.reg [⟨(some 15), none, (.mov (.s 5))⟩, ⟨(some 16), none, (.bin .add (.s 15) (.c (.int 1)))⟩, ⟨(some 5), none, (.mov (.s 16))⟩])))))) (.seq (.reg [⟨(some 4), none, (.mov (.c (.bool true)))⟩]) .ret))))⟩
theorem p79 : prepF Try.prog 79 = some c79 := by kernel_rfl
def c127 : F := ⟨19, [(.tmp 4)], (.seq (.reg [⟨(some 2), none, (.box (.s 0))⟩, ⟨(some 4), none, (.mov (.c (.int 0)))⟩]) (.seq (.reg [⟨(some 5), none, (.mov (.s 1))⟩, ⟨(some 6), none, (.fadr 0 (.s 2))⟩, ⟨(some 7), none, (.load false 1 (.s 6))⟩, ⟨(some 8), none, (.lens (.s 7))⟩, ⟨(some 9), none, (.bin .sub (.s 5) (.s 8))⟩, ⟨(some 1), none, (.mov (.s 9))⟩]) (.seq (.seq (.reg [⟨(some 10), none, (.mov (.s 1))⟩, ⟨(some 11), none, (.bin .lss (.s 10) (.c (.int 0)))⟩]) (.cond (.s 11) (.seq (.reg [⟨(some 4), none, (.mov (.c (.int (-1))))⟩]) .ret) .skip)) (.seq (.reg [⟨(some 12), none, (.fadr 2 (.s 2))⟩, ⟨(some 13), none, (.load false 1 (.s 12))⟩, ⟨(some 14), none, (.mov (.s 1))⟩, ⟨(some 15), none, (.call 16 [(.s 13), (.s 14)])⟩, ⟨(some 1), none, (.mov (.s 15))⟩]) (.seq (.seq (.reg [⟨(some 16), none, (.mov (.s 1))⟩, ⟨(some 17), none, (.bin .lss (.s 16) (.c (.int 0)))⟩]) (.cond (.s 17) (.seq (.reg [⟨(some 4), none, (.mov (.c (.int (-1))))⟩]) .ret) .skip)) (.seq (.reg [⟨(some 18), none, (.mov (.s 1))⟩, ⟨(some 4), none, (.mov (.s 18))⟩]) .ret))))))⟩
theorem p127 : prepF Try.prog 127 = some c127 := by kernel_rfl
def c134 : F := ⟨15, [(.cell 2 true 3)], (.seq (.reg [⟨(some 1), none, (.box (.s 0))⟩, ⟨(some 2), none, (.alloc [(.str []), (.int 0), (.e (.sl []))])⟩]) (.seq (.reg [⟨(some 3), none, (.alloc [(.str []), (.int 0), (.e (.sl []))])⟩]) (.seq (.reg [⟨(some 4), none, (.fadr 0 (.s 1))⟩, ⟨(some 5), none, (.load false 1 (.s 4))⟩, ⟨(some 6), none, (.fadr 0 (.s 3))⟩, ⟨none, none, (.store false 1 (.s 6) (.s 5))⟩]) (.seq (.reg [⟨(some 7), none, (.fadr 1 (.s 1))⟩, ⟨(some 8), none, (.load false 1 (.s 7))⟩, ⟨(some 9), none, (.fadr 1 (.s 3))⟩, ⟨none, none, (.store false 1 (.s 9) (.s 8))⟩]) (.seq (.reg [⟨(some 10), none, (.fadr 2 (.s 1))⟩, ⟨(some 11), none, (.load false 1 (.s 10))⟩, ⟨(some 12), none, (.call 18 [(.s 11)])⟩, ⟨(some 13), none, (.fadr 2 (.s 3))⟩, ⟨none, none, (.store false 1 (.s 13) (.s 12))⟩]) (.seq (.reg [⟨(some 14), none, (.load true 3 (.s 3))⟩, ⟨none, none, (.store true 3 (.s 2) (.s 14))⟩]) .ret))))))⟩
theorem p134 : prepF Try.prog 134 = some c134 := by kernel_rfl
def c139 : F := ⟨21, [(.tmp 4)], (.seq (.reg [⟨(some 2), none, (.box (.s 0))⟩, ⟨(some 3), none, (.box (.s 1))⟩, ⟨(some 4), none, (.mov (.c (.bool false)))⟩]) (.seq (.seq (.reg [⟨(some 5), none, (.fadr 0 (.s 2))⟩, ⟨(some 6), none, (.load false 1 (.s 5))⟩, ⟨(some 7), none, (.fadr 0 (.s 3))⟩, ⟨(some 8), none, (.load false 1 (.s 7))⟩, ⟨(some 9), none, (.bin .neq (.s 6) (.s 8))⟩]) (.cond (.s 9) (.seq (.reg [⟨(some 4), none, (.mov (.c (.bool false)))⟩]) .ret) .skip)) (.seq (.seq (.reg [⟨(some 10), none, (.fadr 1 (.s 2))⟩, ⟨(some 11), none, (.load false 1 (.s 10))⟩, ⟨(some 12), none, (.fadr 1 (.s 3))⟩, ⟨(some 13), none, (.load false 1 (.s 12))⟩, ⟨(some 14), none, (.bin .neq (.s 11) (.s 13))⟩]) (.cond (.s 14) (.seq (.reg [⟨(some 4), none, (.mov (.c (.bool false)))⟩]) .ret) .skip)) (.seq (.seq (.reg [⟨(some 15), none, (.fadr 2 (.s 2))⟩, ⟨(some 16), none, (.load false 1 (.s 15))⟩, ⟨(some 17), none, (.fadr 2 (.s 3))⟩, ⟨(some 18), none, (.load false 1 (.s 17))⟩, ⟨(some 19), none, (.call 19 [(.s 16), (.s 18)])⟩, ⟨(some 20), none, (.un .not (.s 19))⟩]) (.cond (.s 20) (.seq (.reg [⟨(some 4), none, (.mov (.c (.bool false)))⟩]) .ret) .skip)) (.seq (.reg [⟨(some 4), none, (.mov (.c (.bool true)))⟩]) .ret)))))⟩
theorem p139 : prepF Try.prog 139 = some c139 := by kernel_rfl
def c73 : F := ⟨68, [(.tmp 2)], (.seq (.reg [⟨(some 1), none, (.box (.s 0))⟩, ⟨(some 2), none, (.mov (.c (.bool false)))⟩]) (.seq (.seq (.reg [⟨(some 7), none, (.fadr 0 (.s 1))⟩, ⟨(some 8), none, (.load false 1 (.s 7))⟩, ⟨(some 9), none, (.lenl (.s 8))⟩, ⟨(some 10), none, (.bin .gtr (.s 9) (.c (.int 50)))⟩]) (.cond (.s 10) (.seq (.reg [⟨(some 2), none, (.mov (.c (.bool false)))⟩]) .ret) .skip)) (.seq (.reg [⟨(some 3), none, (.mov (.c (.int 0)))⟩]) (.seq (.seq (.reg [⟨(some 4), none, (.mov (.c (.int 0)))⟩]) (.block 0 (.loop (.seq (.seq (.reg [⟨(some 11), none, (.mov (.s 4))⟩, ⟨(some 12), none, (.fadr 0 (.s 1))⟩, ⟨(some 13), none, (.load false 1 (.s 12))⟩, ⟨(some 14), none, (.lenl (.s 13))⟩, ⟨(some 15), none, (.bin .lss (.s 11) (.s 14))⟩]) (.cond (.s 15) .skip (.exit 0))) (.seq (.block 1 (.seq (.reg [⟨(some 18), none, (.fadr 0 (.s 1))⟩, ⟨(some 19), none, (.load false 1 (.s 18))⟩, ⟨(some 20), none, (.mov (.s 4))⟩, ⟨(some 21), none, (.iadr none 3 (.s 19) (.s 20))⟩, ⟨(some 22), none, (.load true 3 (.s 21))⟩, ⟨(some 5), none, (.alloc [(.str []), (.int 0), (.e (.sl []))])⟩, ⟨none, none, (.store true 3 (.s 5) (.s 22))⟩]) (.seq (.seq (.reg [⟨(some 23), none, (.fadr 0 (.s 5))⟩, ⟨(some 24), none, (.load false 1 (.s 23))⟩, ⟨(some 25), none, (.call 115 [(.s 24)])⟩, ⟨(some 26), none, (.un .not (.s 25))⟩, ⟨(some 27), none, (.mov (.s 26))⟩, ⟨(some 28), (some (27, false)), (.fadr 1 (.s 5))⟩, ⟨(some 29), (some (27, false)), (.load false 1 (.s 28))⟩, ⟨(some 30), (some (27, false)), (.bin .lss (.s 29) (.c (.int 1)))⟩, ⟨(some 31), none, (.pick (.s 27) (.c (.bool true)) (.s 30))⟩, ⟨(some 32), none, (.mov (.s 31))⟩, ⟨(some 33), (some (32, false)), (.fadr 1 (.s 5))⟩, ⟨(some 34), (some (32, false)), (.load false 1 (.s 33))⟩, ⟨(some 35), (some (32, false)), (.bin .gtr (.s 34) (.c (.int 16)))⟩, ⟨(some 36), none, (.pick (.s 32) (.c (.bool true)) (.s 35))⟩, ⟨(some 37), none, (.mov (.s 36))⟩, ⟨(some 38), (some (37, false)), (.load true 1 (.s 1))⟩, ⟨(some 39), (some (37, false)), (.fadr 0 (.s 5))⟩, ⟨(some 40), (some (37, false)), (.load false 1 (.s 39))⟩, ⟨(some 41), (some (37, false)), (.call 128 [(.s 38), (.s 40)])⟩, ⟨(some 42), (some (37, false)), (.mov (.s 4))⟩, ⟨(some 43), (some (37, false)), (.bin .neq (.s 41) (.s 42))⟩, ⟨(some 44), none, (.pick (.s 37) (.c (.bool true)) (.s 43))⟩]) (.cond (.s 44) (.seq (.reg [⟨(some 2), none, (.mov (.c (.bool false)))⟩]) .ret) .skip)) (.seq (.seq (.reg [⟨(some 6), none, (.mov (.c (.int 0)))⟩]) (.block 2 (.loop (.seq (.seq (.reg [⟨(some 45), none, (.mov (.s 6))⟩, ⟨(some 46), none, (.fadr 2 (.s 5))⟩, ⟨(some 47), none, (.load false 1 (.s 46))⟩, ⟨(some 48), none, (.lenl (.s 47))⟩, ⟨(some 49), none, (.bin .lss (.s 45) (.s 48))⟩]) (.cond (.s 49) .skip (.exit 2))) (.seq (.block 3 (.seq (.dreg [⟨⟨(some 52), none, (.fadr 2 (.s 5))⟩, [], [5]⟩, ⟨⟨(some 53), none, (.load false 1 (.s 52))⟩, [], [52]⟩, ⟨⟨(some 54), none, (.mov (.s 6))⟩, [0, 1], [6]⟩, ⟨⟨(some 55), none, (.iadr none 1 (.s 53) (.s 54))⟩, [], [53, 54]⟩, ⟨⟨(some 56), none, (.load false 1 (.s 55))⟩, [], [55]⟩, ⟨⟨(some 57), none, (.lenl (.s 56))⟩, [], [56]⟩, ⟨⟨(some 58), none, (.fadr 1 (.s 5))⟩, [0, 1, 2, 3, 4, 5], [5]⟩, ⟨⟨(some 59), none, (.load false 1 (.s 58))⟩, [0, 1, 2, 3, 4, 5], [58]⟩, ⟨⟨(some 60), none, (.bin .neq (.s 57) (.s 59))⟩, [], [57, 59]⟩]) (.cond (.s 60) (.seq (.reg [⟨(some 2), none, (.mov (.c (.bool false)))⟩]) .ret) .skip))) (.reg [⟨(some 50), none, (.mov (.s 6))⟩, ⟨(some 51), none, (.bin .add (.s 50) (.c (.int 1)))⟩, ⟨(some 6), none, (.mov (.s 51))⟩])))))) (.reg [⟨(some 61), none, (.mov (.s 3))⟩, ⟨(some 62), none, (.fadr 2 (.s 5))⟩, ⟨(some 63), none, (.load false 1 (.s 62))⟩, ⟨(some 64), none, (.lenl (.s 63))⟩, ⟨(some 65), none, (.bin .add (.s 61) (.s 64))⟩, ⟨(some 3), none, (.mov (.s 65))⟩]))))) (.reg [⟨(some 16), none, (.mov (.s 4))⟩, ⟨(some 17), none, (.bin .add (.s 16) (.c (.int 1)))⟩, ⟨(some 4), none, (.mov (.s 17))⟩])))))) (.seq (.reg [⟨(some 66), none, (.mov (.s 3))⟩, ⟨(some 67), none, (.bin .leq (.s 66) (.c (.int 1000)))⟩, ⟨(some 2), none, (.mov (.s 67))⟩]) .ret)))))⟩
theorem p73 : prepF Try.prog 73 = some c73 := by kernel_rfl
def c135 : F := ⟨73, [(.tmp 2)], (.seq (.reg [⟨(some 1), none, (.box (.s 0))⟩, ⟨(some 2), none, (.mov (.c (.bool false)))⟩]) (.seq (.seq (.reg [⟨(some 11), none, (.fadr 0 (.s 1))⟩, ⟨(some 12), none, (.load false 1 (.s 11))⟩, ⟨(some 13), none, (.lenl (.s 12))⟩, ⟨(some 14), none, (.bin .gtr (.s 13) (.c (.int 50)))⟩]) (.cond (.s 14) (.seq (.reg [⟨(some 2), none, (.mov (.c (.bool false)))⟩]) .ret) .skip)) (.seq (.reg [⟨(some 15), none, .mkm⟩, ⟨(some 3), none, (.mov (.s 15))⟩]) (.seq (.reg [⟨(some 4), none, (.mov (.c (.int 0)))⟩]) (.seq (.seq (.reg [⟨(some 16), none, (.fadr 0 (.s 1))⟩, ⟨(some 17), none, (.load false 1 (.s 16))⟩, ⟨(some 18), none, (.lenl (.s 17))⟩, ⟨(some 19), none, (.mov (.c (.int 0)))⟩]) (.block 0 (.loop (.seq (.reg [⟨(some 20), none, (.bin .lss (.s 19) (.s 18))⟩]) (.seq (.cond (.s 20) .skip (.exit 0)) (.seq (.block 1 (.seq (.reg [⟨(some 21), none, (.mov (.s 19))⟩, ⟨(some 22), none, (.iadr none 3 (.s 17) (.s 19))⟩, ⟨(some 23), none, (.load true 3 (.s 22))⟩, ⟨(some 6), none, (.alloc [(.str []), (.int 0), (.e (.sl []))])⟩, ⟨(some 5), none, (.mov (.s 21))⟩, ⟨none, none, (.store true 3 (.s 6) (.s 23))⟩]) (.seq (.seq (.reg [⟨(some 25), none, (.mov (.s 3))⟩, ⟨(some 26), none, (.fadr 0 (.s 6))⟩, ⟨(some 27), none, (.load false 1 (.s 26))⟩, ⟨(some 28), none, (.mget true (.v (.int .i64 0)) (.s 25) (.s 27))⟩, ⟨(some 24), none, (.mov (.s 28))⟩, ⟨(some 29), none, (.ext 0 (.s 24))⟩, ⟨(some 30), none, (.ext 1 (.s 24))⟩, ⟨(some 7), none, (.mov (.s 29))⟩, ⟨(some 8), none, (.mov (.s 30))⟩]) (.seq (.reg [⟨(some 31), none, (.mov (.s 8))⟩, ⟨(some 32), none, (.mov (.s 31))⟩, ⟨(some 33), (some (32, false)), (.fadr 0 (.s 6))⟩, ⟨(some 34), (some (32, false)), (.load false 1 (.s 33))⟩, ⟨(some 35), (some (32, false)), (.call 119 [(.s 34)])⟩, ⟨(some 36), (some (32, false)), (.un .not (.s 35))⟩, ⟨(some 37), none, (.pick (.s 32) (.c (.bool true)) (.s 36))⟩, ⟨(some 38), none, (.mov (.s 37))⟩, ⟨(some 39), (some (38, false)), (.fadr 1 (.s 6))⟩, ⟨(some 40), (some (38, false)), (.load false 1 (.s 39))⟩, ⟨(some 41), (some (38, false)), (.bin .lss (.s 40) (.c (.int 1)))⟩, ⟨(some 42), none, (.pick (.s 38) (.c (.bool true)) (.s 41))⟩, ⟨(some 43), none, (.mov (.s 42))⟩, ⟨(some 44), (some (43, false)), (.fadr 1 (.s 6))⟩, ⟨(some 45), (some (43, false)), (.load false 1 (.s 44))⟩, ⟨(some 46), (some (43, false)), (.bin .gtr (.s 45) (.c (.int 16)))⟩, ⟨(some 47), none, (.pick (.s 43) (.c (.bool true)) (.s 46))⟩]) (.cond (.s 47) (.seq (.reg [⟨(some 2), none, (.mov (.c (.bool false)))⟩]) .ret) .skip))) (.seq (.reg [⟨(some 48), none, (.mov (.s 3))⟩, ⟨(some 49), none, (.fadr 0 (.s 6))⟩, ⟨(some 50), none, (.load false 1 (.s 49))⟩, ⟨(some 51), none, (.mov (.s 5))⟩, ⟨none, none, (.mput (.s 48) (.s 50) (.s 51))⟩]) (.seq (.reg [⟨(some 52), none, (.mov (.s 4))⟩, ⟨(some 53), none, (.fadr 2 (.s 6))⟩, ⟨(some 54), none, (.load false 1 (.s 53))⟩, ⟨(some 55), none, (.lenl (.s 54))⟩, ⟨(some 56), none, (.bin .add (.s 52) (.s 55))⟩, ⟨(some 4), none, (.mov (.s 56))⟩]) (.seq (.reg [⟨(some 57), none, (.fadr 2 (.s 6))⟩, ⟨(some 58), none, (.load false 1 (.s 57))⟩, ⟨(some 59), none, (.lenl (.s 58))⟩, ⟨(some 60), none, (.mov (.c (.int 0)))⟩]) (.block 2 (.loop (.seq (.reg [⟨(some 61), none, (.bin .lss (.s 60) (.s 59))⟩]) (.seq (.cond (.s 61) .skip (.exit 2)) (.seq (.block 3 (.seq (.reg [⟨(some 62), none, (.iadr none 1 (.s 58) (.s 60))⟩, ⟨(some 63), none, (.load false 1 (.s 62))⟩, ⟨(some 10), none, (.mov (.s 63))⟩]) (.seq (.reg [⟨(some 64), none, (.mov (.s 10))⟩, ⟨(some 65), none, (.lenl (.s 64))⟩, ⟨(some 66), none, (.fadr 1 (.s 6))⟩, ⟨(some 67), none, (.load false 1 (.s 66))⟩, ⟨(some 68), none, (.bin .neq (.s 65) (.s 67))⟩]) (.cond (.s 68) (.seq (.reg [⟨(some 2), none, (.mov (.c (.bool false)))⟩]) .ret) .skip)))) (.reg [⟨(some 69), none, (.bin .add (.s 60) (.c (.int 1)))⟩, ⟨(some 60), none, (.mov (.s 69))⟩])))))))))))) (.reg [⟨(some 70), none, (.bin .add (.s 19) (.c (.int 1)))⟩, ⟨(some 19), none, (.mov (.s 70))⟩]))))))) (.seq (.reg [⟨(some 71), none, (.mov (.s 4))⟩, ⟨(some 72), none, (.bin .leq (.s 71) (.c (.int 1000)))⟩, ⟨(some 2), none, (.mov (.s 72))⟩]) .ret))))))⟩
theorem p135 : prepF Try.prog 135 = some c135 := by kernel_rfl
def c115 : F := ⟨15, [(.tmp 2)], (.seq (.reg [⟨(some 2), none, (.mov (.c (.bool false)))⟩]) (.seq (.reg [⟨(some 3), none, (.mov (.s 0))⟩, ⟨(some 4), none, (.call 163 [(.s 3)])⟩, ⟨(some 5), none, (.mov (.s 4))⟩, ⟨(some 6), (some (5, true)), (.mov (.s 0))⟩, ⟨(some 7), (some (5, true)), (.lens (.s 6))⟩, ⟨(some 8), (some (5, true)), (.bin .leq (.s 7) (.c (.int 64)))⟩, ⟨(some 9), none, (.pick (.s 5) (.s 8) (.c (.bool false)))⟩, ⟨(some 10), none, (.mov (.s 9))⟩, ⟨(some 11), (some (10, true)), (.mov (.s 0))⟩, ⟨(some 12), (some (10, true)), (.call 164 [(.s 11)])⟩, ⟨(some 13), (some (10, true)), (.un .not (.s 12))⟩, ⟨(some 14), none, (.pick (.s 10) (.s 13) (.c (.bool false)))⟩, ⟨(some 2), none, (.mov (.s 14))⟩]) .ret))⟩
theorem p115 : prepF Try.prog 115 = some c115 := by kernel_rfl
def c128 : F := ⟨22, [(.tmp 4)], (.seq (.reg [⟨(some 2), none, (.box (.s 0))⟩, ⟨(some 4), none, (.mov (.c (.int 0)))⟩]) (.seq (.seq (.reg [⟨(some 5), none, (.mov (.c (.int 0)))⟩]) (.block 0 (.loop (.seq (.seq (.reg [⟨(some 6), none, (.mov (.s 5))⟩, ⟨(some 7), none, (.fadr 0 (.s 2))⟩, ⟨(some 8), none, (.load false 1 (.s 7))⟩, ⟨(some 9), none, (.lenl (.s 8))⟩, ⟨(some 10), none, (.bin .lss (.s 6) (.s 9))⟩]) (.cond (.s 10) .skip (.exit 0))) (.seq (.block 1 (.seq (.reg [⟨(some 13), none, (.fadr 0 (.s 2))⟩, ⟨(some 14), none, (.load false 1 (.s 13))⟩, ⟨(some 15), none, (.mov (.s 5))⟩, ⟨(some 16), none, (.iadr none 3 (.s 14) (.s 15))⟩, ⟨(some 17), none, (.fadr 0 (.s 16))⟩, ⟨(some 18), none, (.load false 1 (.s 17))⟩, ⟨(some 19), none, (.mov (.s 1))⟩, ⟨(some 20), none, (.bin .eql (.s 18) (.s 19))⟩]) (.cond (.s 20) (.seq (.reg [⟨(some 21), none, (.mov (.s 5))⟩, ⟨(some 4), none, (.mov (.s 21))⟩]) .ret) .skip))) (.reg [⟨(some 11), none, (.mov (.s 5))⟩, ⟨(some 12), none, (.bin .add (.s 11) (.c (.int 1)))⟩, ⟨(some 5), none, (.mov (.s 12))⟩])))))) (.seq (.reg [⟨(some 4), none, (.mov (.c (.int (-1))))⟩]) .ret)))⟩
theorem p128 : prepF Try.prog 128 = some c128 := by kernel_rfl
def c119 : F := ⟨46, [(.tmp 2)], (.seq (.reg [⟨(some 2), none, (.mov (.c (.bool false)))⟩]) (.seq (.seq (.reg [⟨(some 4), none, (.mov (.s 0))⟩, ⟨(some 5), none, (.lens (.s 4))⟩, ⟨(some 6), none, (.bin .lss (.s 5) (.c (.int 1)))⟩, ⟨(some 7), none, (.mov (.s 6))⟩, ⟨(some 8), (some (7, false)), (.mov (.s 0))⟩, ⟨(some 9), (some (7, false)), (.lens (.s 8))⟩, ⟨(some 10), (some (7, false)), (.bin .gtr (.s 9) (.c (.int 64)))⟩, ⟨(some 11), none, (.pick (.s 7) (.c (.bool true)) (.s 10))⟩, ⟨(some 12), none, (.mov (.s 11))⟩, ⟨(some 13), (some (12, false)), (.mov (.s 0))⟩, ⟨(some 14), (some (12, false)), (.ixs (.s 13) (.c (.int 0)))⟩, ⟨(some 15), (some (12, false)), (.call 166 [(.s 14)])⟩, ⟨(some 16), (some (12, false)), (.un .not (.s 15))⟩, ⟨(some 17), none, (.pick (.s 12) (.c (.bool true)) (.s 16))⟩, ⟨(some 18), none, (.mov (.s 17))⟩, ⟨(some 19), (some (18, false)), (.mov (.s 0))⟩, ⟨(some 20), (some (18, false)), (.call 167 [(.s 19)])⟩, ⟨(some 21), none, (.pick (.s 18) (.c (.bool true)) (.s 20))⟩]) (.cond (.s 21) (.seq (.reg [⟨(some 2), none, (.mov (.c (.bool false)))⟩]) .ret) .skip)) (.seq (.seq (.reg [⟨(some 22), none, (.mov (.s 0))⟩, ⟨(some 23), none, (.lens (.s 22))⟩, ⟨(some 24), none, (.mov (.c (.int 0)))⟩]) (.block 0 (.loop (.seq (.reg [⟨(some 25), none, (.bin .lss (.s 24) (.s 23))⟩]) (.seq (.cond (.s 25) .skip (.exit 0)) (.seq (.block 1 (.seq (.reg [⟨(some 26), none, (.mov (.s 24))⟩, ⟨(some 3), none, (.mov (.s 26))⟩]) (.seq (.reg [⟨(some 27), none, (.mov (.s 0))⟩, ⟨(some 28), none, (.mov (.s 3))⟩, ⟨(some 29), none, (.ixs (.s 27) (.s 28))⟩, ⟨(some 30), none, (.call 166 [(.s 29)])⟩, ⟨(some 31), none, (.un .not (.s 30))⟩, ⟨(some 32), none, (.mov (.s 31))⟩, ⟨(some 33), (some (32, true)), (.mov (.s 0))⟩, ⟨(some 34), (some (32, true)), (.mov (.s 3))⟩, ⟨(some 35), (some (32, true)), (.ixs (.s 33) (.s 34))⟩, ⟨(some 36), (some (32, true)), (.call 168 [(.s 35)])⟩, ⟨(some 37), (some (32, true)), (.un .not (.s 36))⟩, ⟨(some 38), none, (.pick (.s 32) (.s 37) (.c (.bool false)))⟩, ⟨(some 39), none, (.mov (.s 38))⟩, ⟨(some 40), (some (39, true)), (.mov (.s 0))⟩, ⟨(some 41), (some (39, true)), (.mov (.s 3))⟩, ⟨(some 42), (some (39, true)), (.ixs (.s 40) (.s 41))⟩, ⟨(some 43), (some (39, true)), (.bin .neq (.s 42) (.c (.e (.v (.int .u8 95)))))⟩, ⟨(some 44), none, (.pick (.s 39) (.s 43) (.c (.bool false)))⟩]) (.cond (.s 44) (.seq (.reg [⟨(some 2), none, (.mov (.c (.bool false)))⟩]) .ret) .skip)))) (.reg [⟨(some 45), none, (.bin .add (.s 24) (.c (.int 1)))⟩, ⟨(some 24), none, (.mov (.s 45))⟩]))))))) (.seq (.reg [⟨(some 2), none, (.mov (.c (.bool true)))⟩]) .ret))))⟩
theorem p119 : prepF Try.prog 119 = some c119 := by kernel_rfl
def c163 : F := ⟨35, [(.tmp 2)], (.seq (.reg [⟨(some 2), none, (.mov (.c (.bool false)))⟩]) (.seq (.seq (.reg [⟨(some 3), none, (.mov (.c (.int 0)))⟩]) (.block 0 (.loop (.seq (.seq (.reg [⟨(some 4), none, (.mov (.s 3))⟩, ⟨(some 5), none, (.mov (.s 0))⟩, ⟨(some 6), none, (.lens (.s 5))⟩, ⟨(some 7), none, (.bin .lss (.s 4) (.s 6))⟩]) (.cond (.s 7) .skip (.exit 0))) (.seq (.block 1 (.seq (.reg [⟨(some 10), none, (.mov (.s 0))⟩, ⟨(some 11), none, (.mov (.s 3))⟩, ⟨(some 12), none, (.ixs (.s 10) (.s 11))⟩, ⟨(some 13), none, (.call 192 [(.s 12)])⟩, ⟨(some 14), none, (.un .not (.s 13))⟩, ⟨(some 15), none, (.mov (.s 14))⟩, ⟨(some 16), (some (15, true)), (.mov (.s 3))⟩, ⟨(some 17), (some (15, true)), (.bin .eql (.s 16) (.c (.int 0)))⟩, ⟨(some 18), (some (15, true)), (.mov (.s 17))⟩, ⟨(some 19), (some (18, false)), (.mov (.s 0))⟩, ⟨(some 20), (some (18, false)), (.mov (.s 3))⟩, ⟨(some 21), (some (18, false)), (.ixs (.s 19) (.s 20))⟩, ⟨(some 22), (some (18, false)), (.call 193 [(.s 21)])⟩, ⟨(some 23), (some (18, false)), (.un .not (.s 22))⟩, ⟨(some 24), (some (18, false)), (.mov (.s 23))⟩, ⟨(some 25), (some (24, true)), (.mov (.s 0))⟩, ⟨(some 26), (some (24, true)), (.mov (.s 3))⟩, ⟨(some 27), (some (24, true)), (.ixs (.s 25) (.s 26))⟩, ⟨(some 28), (some (24, true)), (.bin .neq (.s 27) (.c (.e (.v (.int .u8 95)))))⟩, ⟨(some 29), (some (18, false)), (.pick (.s 24) (.s 28) (.c (.bool false)))⟩, ⟨(some 30), (some (15, true)), (.pick (.s 18) (.c (.bool true)) (.s 29))⟩, ⟨(some 31), none, (.pick (.s 15) (.s 30) (.c (.bool false)))⟩]) (.cond (.s 31) (.seq (.reg [⟨(some 2), none, (.mov (.c (.bool false)))⟩]) .ret) .skip))) (.reg [⟨(some 8), none, (.mov (.s 3))⟩, ⟨(some 9), none, (.bin .add (.s 8) (.c (.int 1)))⟩, ⟨(some 3), none, (.mov (.s 9))⟩])))))) (.seq (.reg [⟨(some 32), none, (.mov (.s 0))⟩, ⟨(some 33), none, (.lens (.s 32))⟩, ⟨(some 34), none, (.bin .gtr (.s 33) (.c (.int 0)))⟩, ⟨(some 2), none, (.mov (.s 34))⟩]) .ret)))⟩
theorem p163 : prepF Try.prog 163 = some c163 := by kernel_rfl
def c164 : F := ⟨69, [(.tmp 2)], (.seq (.reg [⟨(some 2), none, (.mov (.c (.bool false)))⟩]) (.seq (.reg [⟨(some 3), none, (.mov (.s 0))⟩, ⟨(some 4), none, (.bin .eql (.s 3) (.c (.str [83, 69, 76, 69, 67, 84])))⟩, ⟨(some 5), none, (.mov (.s 4))⟩, ⟨(some 6), (some (5, false)), (.mov (.s 0))⟩, ⟨(some 7), (some (5, false)), (.bin .eql (.s 6) (.c (.str [68, 73, 83, 84, 73, 78, 67, 84])))⟩, ⟨(some 8), none, (.pick (.s 5) (.c (.bool true)) (.s 7))⟩, ⟨(some 9), none, (.mov (.s 8))⟩, ⟨(some 10), (some (9, false)), (.mov (.s 0))⟩, ⟨(some 11), (some (9, false)), (.bin .eql (.s 10) (.c (.str [70, 82, 79, 77])))⟩, ⟨(some 12), none, (.pick (.s 9) (.c (.bool true)) (.s 11))⟩, ⟨(some 13), none, (.mov (.s 12))⟩, ⟨(some 14), (some (13, false)), (.mov (.s 0))⟩, ⟨(some 15), (some (13, false)), (.bin .eql (.s 14) (.c (.str [87, 72, 69, 82, 69])))⟩, ⟨(some 16), none, (.pick (.s 13) (.c (.bool true)) (.s 15))⟩, ⟨(some 17), none, (.mov (.s 16))⟩, ⟨(some 18), (some (17, false)), (.mov (.s 0))⟩, ⟨(some 19), (some (17, false)), (.bin .eql (.s 18) (.c (.str [85, 78, 73, 79, 78])))⟩, ⟨(some 20), none, (.pick (.s 17) (.c (.bool true)) (.s 19))⟩, ⟨(some 21), none, (.mov (.s 20))⟩, ⟨(some 22), (some (21, false)), (.mov (.s 0))⟩, ⟨(some 23), (some (21, false)), (.bin .eql (.s 22) (.c (.str [65, 76, 76])))⟩, ⟨(some 24), none, (.pick (.s 21) (.c (.bool true)) (.s 23))⟩, ⟨(some 25), none, (.mov (.s 24))⟩, ⟨(some 26), (some (25, false)), (.mov (.s 0))⟩, ⟨(some 27), (some (25, false)), (.bin .eql (.s 26) (.c (.str [65, 78, 89])))⟩, ⟨(some 28), none, (.pick (.s 25) (.c (.bool true)) (.s 27))⟩, ⟨(some 29), none, (.mov (.s 28))⟩, ⟨(some 30), (some (29, false)), (.mov (.s 0))⟩, ⟨(some 31), (some (29, false)), (.bin .eql (.s 30) (.c (.str [65, 78, 68])))⟩, ⟨(some 32), none, (.pick (.s 29) (.c (.bool true)) (.s 31))⟩, ⟨(some 33), none, (.mov (.s 32))⟩, ⟨(some 34), (some (33, false)), (.mov (.s 0))⟩, ⟨(some 35), (some (33, false)), (.bin .eql (.s 34) (.c (.str [79, 82])))⟩, ⟨(some 36), none, (.pick (.s 33) (.c (.bool true)) (.s 35))⟩, ⟨(some 37), none, (.mov (.s 36))⟩, ⟨(some 38), (some (37, false)), (.mov (.s 0))⟩, ⟨(some 39), (some (37, false)), (.bin .eql (.s 38) (.c (.str [78, 79, 84])))⟩, ⟨(some 40), none, (.pick (.s 37) (.c (.bool true)) (.s 39))⟩, ⟨(some 41), none, (.mov (.s 40))⟩, ⟨(some 42), (some (41, false)), (.mov (.s 0))⟩, ⟨(some 43), (some (41, false)), (.bin .eql (.s 42) (.c (.str [69, 88, 73, 83, 84, 83])))⟩, ⟨(some 44), none, (.pick (.s 41) (.c (.bool true)) (.s 43))⟩, ⟨(some 45), none, (.mov (.s 44))⟩, ⟨(some 46), (some (45, false)), (.mov (.s 0))⟩, ⟨(some 47), (some (45, false)), (.bin .eql (.s 46) (.c (.str [73, 78])))⟩, ⟨(some 48), none, (.pick (.s 45) (.c (.bool true)) (.s 47))⟩, ⟨(some 49), none, (.mov (.s 48))⟩, ⟨(some 50), (some (49, false)), (.mov (.s 0))⟩, ⟨(some 51), (some (49, false)), (.bin .eql (.s 50) (.c (.str [73, 83])))⟩, ⟨(some 52), none, (.pick (.s 49) (.c (.bool true)) (.s 51))⟩, ⟨(some 53), none, (.mov (.s 52))⟩, ⟨(some 54), (some (53, false)), (.mov (.s 0))⟩, ⟨(some 55), (some (53, false)), (.bin .eql (.s 54) (.c (.str [78, 85, 76, 76])))⟩, ⟨(some 56), none, (.pick (.s 53) (.c (.bool true)) (.s 55))⟩, ⟨(some 57), none, (.mov (.s 56))⟩, ⟨(some 58), (some (57, false)), (.mov (.s 0))⟩, ⟨(some 59), (some (57, false)), (.bin .eql (.s 58) (.c (.str [67, 79, 85, 78, 84])))⟩, ⟨(some 60), none, (.pick (.s 57) (.c (.bool true)) (.s 59))⟩, ⟨(some 61), none, (.mov (.s 60))⟩, ⟨(some 62), (some (61, false)), (.mov (.s 0))⟩, ⟨(some 63), (some (61, false)), (.bin .eql (.s 62) (.c (.str [77, 73, 78])))⟩, ⟨(some 64), none, (.pick (.s 61) (.c (.bool true)) (.s 63))⟩, ⟨(some 65), none, (.mov (.s 64))⟩, ⟨(some 66), (some (65, false)), (.mov (.s 0))⟩, ⟨(some 67), (some (65, false)), (.bin .eql (.s 66) (.c (.str [77, 65, 88])))⟩, ⟨(some 68), none, (.pick (.s 65) (.c (.bool true)) (.s 67))⟩, ⟨(some 2), none, (.mov (.s 68))⟩]) .ret))⟩
theorem p164 : prepF Try.prog 164 = some c164 := by kernel_rfl
def c166 : F := ⟨17, [(.tmp 2)], (.seq (.reg [⟨(some 2), none, (.mov (.c (.bool false)))⟩]) (.seq (.reg [⟨(some 3), none, (.mov (.s 0))⟩, ⟨(some 4), none, (.bin .geq (.s 3) (.c (.e (.v (.int .u8 97)))))⟩, ⟨(some 5), none, (.mov (.s 4))⟩, ⟨(some 6), (some (5, true)), (.mov (.s 0))⟩, ⟨(some 7), (some (5, true)), (.bin .leq (.s 6) (.c (.e (.v (.int .u8 122)))))⟩, ⟨(some 8), none, (.pick (.s 5) (.s 7) (.c (.bool false)))⟩, ⟨(some 9), none, (.mov (.s 8))⟩, ⟨(some 10), (some (9, false)), (.mov (.s 0))⟩, ⟨(some 11), (some (9, false)), (.bin .geq (.s 10) (.c (.e (.v (.int .u8 65)))))⟩, ⟨(some 12), (some (9, false)), (.mov (.s 11))⟩, ⟨(some 13), (some (12, true)), (.mov (.s 0))⟩, ⟨(some 14), (some (12, true)), (.bin .leq (.s 13) (.c (.e (.v (.int .u8 90)))))⟩, ⟨(some 15), (some (9, false)), (.pick (.s 12) (.s 14) (.c (.bool false)))⟩, ⟨(some 16), none, (.pick (.s 9) (.c (.bool true)) (.s 15))⟩, ⟨(some 2), none, (.mov (.s 16))⟩]) .ret))⟩
theorem p166 : prepF Try.prog 166 = some c166 := by kernel_rfl
def c167 : F := ⟨22, [(.tmp 2)], (.seq (.reg [⟨(some 2), none, (.mov (.c (.bool false)))⟩]) (.seq (.seq (.reg [⟨(some 3), none, (.mov (.s 0))⟩]) (.block 0 (.seq (.seq (.reg [⟨(some 5), none, (.bin .eql (.s 3) (.c (.str [83, 69, 76, 69, 67, 84])))⟩, ⟨(some 4), none, (.mov (.s 5))⟩]) (.cond (.s 4) .skip (.seq (.reg [⟨(some 6), none, (.bin .eql (.s 3) (.c (.str [68, 73, 83, 84, 73, 78, 67, 84])))⟩, ⟨(some 4), none, (.mov (.s 6))⟩]) (.cond (.s 4) .skip (.seq (.reg [⟨(some 7), none, (.bin .eql (.s 3) (.c (.str [70, 82, 79, 77])))⟩, ⟨(some 4), none, (.mov (.s 7))⟩]) (.cond (.s 4) .skip (.seq (.reg [⟨(some 8), none, (.bin .eql (.s 3) (.c (.str [87, 72, 69, 82, 69])))⟩, ⟨(some 4), none, (.mov (.s 8))⟩]) (.cond (.s 4) .skip (.seq (.reg [⟨(some 9), none, (.bin .eql (.s 3) (.c (.str [85, 78, 73, 79, 78])))⟩, ⟨(some 4), none, (.mov (.s 9))⟩]) (.cond (.s 4) .skip (.seq (.reg [⟨(some 10), none, (.bin .eql (.s 3) (.c (.str [65, 76, 76])))⟩, ⟨(some 4), none, (.mov (.s 10))⟩]) (.cond (.s 4) .skip (.seq (.reg [⟨(some 11), none, (.bin .eql (.s 3) (.c (.str [65, 78, 89])))⟩, ⟨(some 4), none, (.mov (.s 11))⟩]) (.cond (.s 4) .skip (.seq (.reg [⟨(some 12), none, (.bin .eql (.s 3) (.c (.str [65, 78, 68])))⟩, ⟨(some 4), none, (.mov (.s 12))⟩]) (.cond (.s 4) .skip (.seq (.reg [⟨(some 13), none, (.bin .eql (.s 3) (.c (.str [79, 82])))⟩, ⟨(some 4), none, (.mov (.s 13))⟩]) (.cond (.s 4) .skip (.seq (.reg [⟨(some 14), none, (.bin .eql (.s 3) (.c (.str [78, 79, 84])))⟩, ⟨(some 4), none, (.mov (.s 14))⟩]) (.cond (.s 4) .skip (.seq (.reg [⟨(some 15), none, (.bin .eql (.s 3) (.c (.str [69, 88, 73, 83, 84, 83])))⟩, ⟨(some 4), none, (.mov (.s 15))⟩]) (.cond (.s 4) .skip (.seq (.reg [⟨(some 16), none, (.bin .eql (.s 3) (.c (.str [73, 78])))⟩, ⟨(some 4), none, (.mov (.s 16))⟩]) (.cond (.s 4) .skip (.seq (.reg [⟨(some 17), none, (.bin .eql (.s 3) (.c (.str [73, 83])))⟩, ⟨(some 4), none, (.mov (.s 17))⟩]) (.cond (.s 4) .skip (.seq (.reg [⟨(some 18), none, (.bin .eql (.s 3) (.c (.str [78, 85, 76, 76])))⟩, ⟨(some 4), none, (.mov (.s 18))⟩]) (.cond (.s 4) .skip (.seq (.reg [⟨(some 19), none, (.bin .eql (.s 3) (.c (.str [67, 79, 85, 78, 84])))⟩, ⟨(some 4), none, (.mov (.s 19))⟩]) (.cond (.s 4) .skip (.seq (.reg [⟨(some 20), none, (.bin .eql (.s 3) (.c (.str [77, 73, 78])))⟩, ⟨(some 4), none, (.mov (.s 20))⟩]) (.cond (.s 4) .skip (.reg [⟨(some 21), none, (.bin .eql (.s 3) (.c (.str [77, 65, 88])))⟩, ⟨(some 4), none, (.mov (.s 21))⟩]))))))))))))))))))))))))))))))))) (.cond (.s 4) (.seq (.reg [⟨(some 2), none, (.mov (.c (.bool true)))⟩]) .ret) .skip)))) (.seq (.reg [⟨(some 2), none, (.mov (.c (.bool false)))⟩]) .ret)))⟩
theorem p167 : prepF Try.prog 167 = some c167 := by kernel_rfl
def c168 : F := ⟨9, [(.tmp 2)], (.seq (.reg [⟨(some 2), none, (.mov (.c (.bool false)))⟩]) (.seq (.reg [⟨(some 3), none, (.mov (.s 0))⟩, ⟨(some 4), none, (.bin .geq (.s 3) (.c (.e (.v (.int .u8 48)))))⟩, ⟨(some 5), none, (.mov (.s 4))⟩, ⟨(some 6), (some (5, true)), (.mov (.s 0))⟩, ⟨(some 7), (some (5, true)), (.bin .leq (.s 6) (.c (.e (.v (.int .u8 57)))))⟩, ⟨(some 8), none, (.pick (.s 5) (.s 7) (.c (.bool false)))⟩, ⟨(some 2), none, (.mov (.s 8))⟩]) .ret))⟩
theorem p168 : prepF Try.prog 168 = some c168 := by kernel_rfl
def c192 : F := ⟨17, [(.tmp 2)], (.seq (.reg [⟨(some 2), none, (.mov (.c (.bool false)))⟩]) (.seq (.reg [⟨(some 3), none, (.mov (.s 0))⟩, ⟨(some 4), none, (.bin .geq (.s 3) (.c (.e (.v (.int .u8 65)))))⟩, ⟨(some 5), none, (.mov (.s 4))⟩, ⟨(some 6), (some (5, true)), (.mov (.s 0))⟩, ⟨(some 7), (some (5, true)), (.bin .leq (.s 6) (.c (.e (.v (.int .u8 90)))))⟩, ⟨(some 8), none, (.pick (.s 5) (.s 7) (.c (.bool false)))⟩, ⟨(some 9), none, (.mov (.s 8))⟩, ⟨(some 10), (some (9, false)), (.mov (.s 0))⟩, ⟨(some 11), (some (9, false)), (.bin .geq (.s 10) (.c (.e (.v (.int .u8 97)))))⟩, ⟨(some 12), (some (9, false)), (.mov (.s 11))⟩, ⟨(some 13), (some (12, true)), (.mov (.s 0))⟩, ⟨(some 14), (some (12, true)), (.bin .leq (.s 13) (.c (.e (.v (.int .u8 122)))))⟩, ⟨(some 15), (some (9, false)), (.pick (.s 12) (.s 14) (.c (.bool false)))⟩, ⟨(some 16), none, (.pick (.s 9) (.c (.bool true)) (.s 15))⟩, ⟨(some 2), none, (.mov (.s 16))⟩]) .ret))⟩
theorem p192 : prepF Try.prog 192 = some c192 := by kernel_rfl
def c193 : F := ⟨9, [(.tmp 2)], (.seq (.reg [⟨(some 2), none, (.mov (.c (.bool false)))⟩]) (.seq (.reg [⟨(some 3), none, (.mov (.s 0))⟩, ⟨(some 4), none, (.bin .geq (.s 3) (.c (.e (.v (.int .u8 48)))))⟩, ⟨(some 5), none, (.mov (.s 4))⟩, ⟨(some 6), (some (5, true)), (.mov (.s 0))⟩, ⟨(some 7), (some (5, true)), (.bin .leq (.s 6) (.c (.e (.v (.int .u8 57)))))⟩, ⟨(some 8), none, (.pick (.s 5) (.s 7) (.c (.bool false)))⟩, ⟨(some 2), none, (.mov (.s 8))⟩]) .ret))⟩
theorem p193 : prepF Try.prog 193 = some c193 := by kernel_rfl
end Go.Proofs.Ytfplalbognalkaa.Ab
/- The laws' helpers over rows of rows and tables: measured, copied, alike. -/
namespace Go.Proofs.Ytfplalbognalkaa.Ab
open Go
abbrev rsr (r : List (Bool × Int)) : List E := [E.sl (r.map vr)]
abbrev Tb := List UInt8 × Int × List (List (Bool × Int))
abbrev tbr (t : Tb) : List E := [E.str t.1, E.int t.2.1, E.sl (t.2.2.map rsr)]
theorem row_at {α : Type} {f : α → List E} {l : List α} {es : List (List E)} (he : es = l.map f) {n : Int} (h : 0 ≤ n ∧ n < es.length) : ∃ p, es.getD n.toNat [] = f p ∧ l[n.toNat]? = some p := by
  subst he
  have hn : n.toNat < l.length := by simp at h; omega
  exact ⟨l[n.toNat], by simp [List.getD, hn], by simp [hn]⟩
/-- What is left of a budget; -1: it did not do. -/
def cut (left t : Int) : Int := if left - t < 0 then -1 else left - t
def sumC {α : Type} (c : α → Int) : List α → Int
  | [] => 0
  | a :: l => c a + sumC c l
theorem sumC_nonneg {α : Type} {c : α → Int} (h : ∀ a, 0 ≤ c a) : ∀ l : List α, 0 ≤ sumC c l
  | [] => Int.le_refl _
  | a :: l => by have := h a; have := sumC_nonneg h l; simp only [sumC]; omega
theorem sumC_drop {α : Type} {c : α → Int} {l : List α} {i : Nat} {p : α} (h : l[i]? = some p) : sumC c (l.drop i) = c p + sumC c (l.drop (i + 1)) := by
  obtain ⟨a, b⟩ := List.getElem?_eq_some_iff.1 h
  rw [List.drop_eq_getElem_cons a, b]
  rfl
theorem sumC_mem {α : Type} {c : α → Int} (h : ∀ a, 0 ≤ c a) {l : List α} {p : α} (hp : p ∈ l) : c p ≤ sumC c l := by
  induction l with
  | nil => cases hp
  | cons a l ih =>
    simp only [sumC]
    have := h a
    have := sumC_nonneg h l
    rcases List.mem_cons.1 hp with rfl | hp
    · omega
    · have := ih hp; omega
def cV (r : List (Bool × Int)) : Int := r.length
theorem cV_nonneg (r : List (Bool × Int)) : 0 ≤ cV r := by unfold cV; omega
def cSS (rs : List (List (Bool × Int))) : Int := rs.length + sumC cV rs
theorem cSS_nonneg (rs : List (List (Bool × Int))) : 0 ≤ cSS rs := by have := sumC_nonneg cV_nonneg rs; unfold cSS; omega
def cT (t : Tb) : Int := t.1.length + cSS t.2.2
theorem cT_nonneg (t : Tb) : 0 ≤ cT t := by have := cSS_nonneg t.2.2; unfold cT; omega
def cTS (ts : List Tb) : Int := ts.length + sumC cT ts
theorem cTS_nonneg (ts : List Tb) : 0 ≤ cTS ts := by have := sumC_nonneg cT_nonneg ts; unfold cTS; omega
theorem ok57c (r : List (Bool × Int)) (x : List (List E)) (hx : x = r.map vr) (left : Int) (h : 0 ≤ left ∧ left ≤ 1048576) : Plain Try.prog 57 [.e (.sl x), .int left] (.int (cut left (cV r))) := by
  have := ok57 x left h
  rw [show x.length = r.length by rw [hx]; simp] at this
  exact this
set_option maxRecDepth 100000 in
theorem ok16 (l : List (List (Bool × Int))) (es : List (List E)) (he : es = l.map rsr) (left : Int) (h : 0 ≤ left ∧ left ≤ 1048576) : Plain Try.prog 16 [.e (.sl es), .int left] (.int (cut left (l.length + sumC cV l))) := okOf mixed p16 fun A P hA hP => (by
  have hl1 : es.length = l.length := by rw [he]; simp
  have hsn : ∀ l : List (List (Bool × Int)), 0 ≤ sumC cV l := sumC_nonneg cV_nonneg
  obtain ⟨r, hr⟩ : ∃ r, r = cut left (l.length + sumC cV l) := ⟨_, rfl⟩
  rw [← hr]
  have hr2 : r = cut (left - es.length) (sumC cV l) := by rw [hr, hl1, cut, cut]; congr 1 <;> (try apply propext) <;> omega
  clear hr
  cbv
  repeat' first | with_reducible rfl | with_reducible refine And.intro ?_ ?_ | ((with_reducible intro hcc); first | (cases hcc; done) | skip) | ((with_reducible first | show goC _ _ _ _ _ _ _ _ | show goOps _ _ _ _ _ | show goD _ _ _ _ _ _); cbv) | ((with_reducible show okWr _ _ = _); rfl) | ((with_reducible first | refine hA.fin_pl _ _ _ ?_ | refine hA.len _ _ _ _ _ fun z hz hb => ?_ | refine hA.off _ _ _ _ fun b hb => ?_); cbv) | ((with_reducible first | refine hA.sapp _ _ _ ⟨?_, fun sl hsl => ?_⟩); rotate_left; cbv) | (simp only [hA.lits]; cbv)
  all_goals try simp only [hA.ar, inR, n_cast, Int.ofNat_eq_natCast, Option.getD_some, Option.getD_none] at *
  all_goals try (first | omega | (have := hb trivial trivial trivial; omega) | (have : r = -1 := (by simp only [decide_eq_true_eq] at *; have := hsn l; rw [hr2]; unfold cut; split <;> omega); rw [this]; done))
  · refine hA.loopI (fun n s => ∃ (i lf : Int), 0 ≤ i ∧ n + i = es.length ∧ 0 ≤ lf ∧ lf ≤ 1048576 ∧ r = cut lf (sumC cV (l.drop i.toNat)) ∧
        s = ⟨[(5, .int i), (0, .e (.sl es)), (1, .int lf), (4, .int 0)], []⟩) es.length _
      (Weak.keep (env' := [(5, .int 0), (0, .e (.sl es)), (1, .int (left - z)), (4, .int 0)]) ⟨rfl, rfl, rfl, rfl, trivial⟩) ⟨0, left - z, by omega, by omega, by simp only [decide_eq_false_iff_not] at *; omega, by omega, (by rw [hr2, hz]; rfl), rfl⟩ ?_
    rintro n s K ⟨i, lf, h0, h1, h2, h3, h4, rfl⟩ hK
    clear hr2
    by_cases hin : (0 : Int) ≤ i ∧ i < es.length
    · obtain ⟨r1, e1, q1⟩ := row_at he hin
      obtain ⟨x1, hx1⟩ : ∃ x, x = r1.map vr := ⟨_, rfl⟩
      have e1 : es.getD i.toNat [] = [E.sl x1] := e1.trans (by rw [hx1])
      rw [sumC_drop q1] at h4
      obtain ⟨S, hS⟩ : ∃ S, S = sumC cV (l.drop (i.toNat + 1)) := ⟨_, rfl⟩
      have hS0 : 0 ≤ S := hS ▸ hsn _
      obtain ⟨c, hcost⟩ : ∃ c, c = cV r1 := ⟨_, rfl⟩
      have hc0 : 0 ≤ c := hcost ▸ cV_nonneg _
      have hc := ok57c r1 x1 hx1 lf ⟨h2, h3⟩
      rw [← hS, ← hcost] at h4
      rw [← hcost] at hc
      obtain ⟨u, hu⟩ : ∃ u, u = cut lf c := ⟨_, rfl⟩
      rw [← hu] at hc
      have e8 : (i + 1).toNat = i.toNat + 1 := by omega
      have g1 : u < 0 → r = -1 := fun a => by rw [h4]; unfold cut at hu ⊢; split at hu <;> split <;> omega
      have g2 : 0 ≤ u → r = cut u S ∧ u ≤ lf := fun a => by
        have hu2 : u = lf - c := by rw [hu] at a ⊢; unfold cut at a ⊢; split at a <;> split <;> omega
        refine ⟨?_, by omega⟩
        rw [h4, hu2]
        unfold cut
        rw [show lf - (c + S) = lf - c - S by omega]
      clear h4 hu hcost
      cbv
      repeat' first | with_reducible rfl | with_reducible refine And.intro ?_ ?_ | ((with_reducible intro hcc); first | (cases hcc; done) | skip) | ((with_reducible first | show goC _ _ _ _ _ _ _ _ | show goOps _ _ _ _ _ | show goD _ _ _ _ _ _); cbv) | ((with_reducible show okWr _ _ = _); rfl) | ((with_reducible first | refine callK_f hA hP hc ?_ ?_ ?_); exact rfl; exact rfl; cbv) | ((with_reducible refine hA.row es _ _ ⟨hin, fun row hrow => ?_⟩); rw [e1] at hrow; subst hrow; cbv) | ((with_reducible first | refine hA.fin_pl _ _ _ ?_ | refine hA.len _ _ _ _ _ fun z hz hb => ?_ | refine hA.off _ _ _ _ fun b hb => ?_); cbv) | ((with_reducible first | refine hA.sapp _ _ _ ⟨?_, fun sl hsl => ?_⟩); rotate_left; cbv) | (simp only [hA.lits]; cbv)
      all_goals try simp only [hA.ar, inR, n_cast, Int.ofNat_eq_natCast, Option.getD_some, Option.getD_none] at *
      all_goals first
        | omega
        | (clear hK g1 g2 he; simp at *; omega)
        | (rw [g1 (by clear hK g2; simp at *; omega)]; done)
        | (have hu0 : 0 ≤ u := (by clear hK; simp at *; omega)
           exact hK _ (n - 1) _ (by omega) (Weak.keep (env' := [(5, .int (i + 1)), (0, .e (.sl es)), (1, .int u), (4, .int 0)]) ⟨rfl, rfl, rfl, rfl, trivial⟩) ⟨i + 1, u, by omega, by omega, hu0, by have := (g2 hu0).2; omega, by rw [e8, ← hS]; exact (g2 hu0).1, rfl⟩)
        | (clear hK g1 g2 he; simp at *; omega)
        | (trace_state; fail)
    · have hd : l.drop i.toNat = [] := by rw [List.drop_eq_nil_iff]; omega
      rw [hd] at h4
      have h5 : r = lf := by rw [h4, sumC, cut, if_neg (by omega)]; omega
      clear h4 hK
      cbv
      repeat' first | with_reducible rfl | with_reducible refine And.intro ?_ ?_ | ((with_reducible intro hcc); first | (cases hcc; done) | skip) | ((with_reducible first | show goC _ _ _ _ _ _ _ _ | show goOps _ _ _ _ _ | show goD _ _ _ _ _ _); cbv) | ((with_reducible show okWr _ _ = _); rfl) | (exfalso; simp only [hA.lt, hA.sub, decide_eq_true_eq, decide_eq_false_iff_not, n_cast] at *; omega) | ((with_reducible first | refine hA.fin_pl _ _ _ ?_ | refine hA.len _ _ _ _ _ fun z hz hb => ?_ | refine hA.off _ _ _ _ fun b hb => ?_); cbv) | ((with_reducible first | refine hA.sapp _ _ _ ⟨?_, fun sl hsl => ?_⟩); rotate_left; cbv) | (simp only [hA.lits]; cbv)
      all_goals try simp only [hA.ar, inR, n_cast, Int.ofNat_eq_natCast, Option.getD_some, Option.getD_none] at *
      all_goals first
        | (rw [h5])
        | omega
        | (clear he; simp at *; omega)
        | (trace_state; fail))
set_option maxRecDepth 100000 in
set_option maxHeartbeats 1000000 in
theorem ok18 (l : List (List (Bool × Int))) (es : List (List E)) (he : es = l.map rsr) (hlen : es.length ≤ 1048576) (hb2 : ∀ r ∈ l, r.length ≤ 1048576) : Plain Try.prog 18 [.e (.sl es)] (.e (.sl es)) := okOf mixed p18 fun A P hA hP => (by
  have hl1 : es.length = l.length := by rw [he]; simp
  have hes : ∀ e ∈ es, e.length = 1 := by
    rw [he]
    intro e h
    obtain ⟨p, _, rfl⟩ := List.mem_map.1 h
    rfl
  cbv
  repeat' first | with_reducible rfl | with_reducible refine And.intro ?_ ?_ | ((with_reducible intro hcc); first | (cases hcc; done) | skip) | ((with_reducible first | show goC _ _ _ _ _ _ _ _ | show goOps _ _ _ _ _ | show goD _ _ _ _ _ _); cbv) | ((with_reducible show okWr _ _ = _); rfl) | ((with_reducible first | refine hA.fin_pl _ _ _ ?_ | refine hA.len _ _ _ _ _ fun z hz hb => ?_ | refine hA.off _ _ _ _ fun b hb => ?_ | refine hA.rep _ _ _ fun ds m hds hm => ?_ | refine hA.alt _ _ (Or.inl ?_)); cbv) | ((with_reducible first | refine hA.st _ _ _ _ _ ⟨?_, fun ds hds => ?_⟩ | refine hA.sapp _ _ _ ⟨?_, fun sl hsl => ?_⟩); rotate_left; cbv) | (simp only [hA.lits]; cbv)
  all_goals try simp only [hA.ar, inR, n_cast, Int.ofNat_eq_natCast, Option.getD_some, Option.getD_none] at *
  · omega
  · omega
  · refine hA.loopI (fun n s => ∃ (i : Int) (xs : List (List E)), 0 ≤ i ∧ n + i = es.length ∧ xs.length = es.length ∧ (∀ e ∈ xs, e.length = 1) ∧ (∀ j : Nat, j < i → xs[j]? = es[j]?) ∧
        s = ⟨[(4, .int i), (3, .bs 0 0 m 1), (2, .zs), (0, .e (.sl es))], [.box (xs.flatten.map .e)]⟩) es.length _
      (Weak.keep (env' := [(4, .int 0), (3, .bs 0 0 m 1), (2, .zs), (0, .e (.sl es))]) ⟨rfl, rfl, rfl, rfl, trivial⟩)
      ⟨0, List.replicate m [E.sl []], by omega, by omega, by simp; omega, by simp, fun j hj => by omega, by rw [← buf_zero, hm]; rw [hds]; rfl⟩ ?_
    rintro n s K ⟨i, xs, h0, h1, h2, h3, h4, rfl⟩ hK
    obtain ⟨ys, hys⟩ : ∃ ys, ys = xs.flatten.map D.e := ⟨_, rfl⟩
    have hyl : ys.length = xs.length * 1 := by rw [hys, List.length_map, flatten_len h3]
    rw [← hys]
    by_cases hin : (0 : Int) ≤ i ∧ i < es.length
    · obtain ⟨r1, e1, q1⟩ := row_at he hin
      obtain ⟨x1, hx1⟩ : ∃ x, x = r1.map vr := ⟨_, rfl⟩
      have e1 : es.getD i.toNat [] = [E.sl x1] := e1.trans (by rw [hx1])
      have hc := ok58 r1 x1 hx1 (by have := hb2 r1 (List.mem_of_getElem? q1); rw [hx1, List.length_map]; omega)
      have hrow0 : es[i.toNat]? = some (es.getD i.toNat []) := by
        have : i.toNat < es.length := by omega
        simp [List.getD, this]
      have hrl : (es.getD i.toNat []).length = 1 := hes _ (List.mem_of_getElem? hrow0)
      cbv
      repeat' first | with_reducible rfl | with_reducible refine And.intro ?_ ?_ | ((with_reducible intro hcc); first | (cases hcc; done) | skip) | ((with_reducible first | show goC _ _ _ _ _ _ _ _ | show goOps _ _ _ _ _ | show goD _ _ _ _ _ _); cbv) | ((with_reducible show okWr _ _ = _); rfl) | ((with_reducible first | refine callK_f hA hP hc ?_ ?_ ?_); exact rfl; exact rfl; cbv) | ((with_reducible refine hA.row es _ _ ⟨hin, fun row hrow => ?_⟩); rw [e1] at hrow; subst hrow; cbv) | ((with_reducible first | refine hA.fin_pl _ _ _ ?_ | refine hA.len _ _ _ _ _ fun z hz hb => ?_ | refine hA.off _ _ _ _ fun b hb => ?_ | refine hA.rep _ _ _ fun ds m hds hm => ?_ | refine hA.alt _ _ (Or.inl ?_)); cbv) | ((with_reducible first | refine hA.st _ _ _ _ _ ⟨?_, fun ds hds => ?_⟩ | refine hA.sapp _ _ _ ⟨?_, fun sl hsl => ?_⟩); rotate_left; cbv) | (simp only [hA.lits]; cbv)
      all_goals try simp only [hA.ar, inR, n_cast, Int.ofNat_eq_natCast, Option.getD_some, Option.getD_none] at *
      all_goals first
        | (show _ < (m : Int); omega)
        | omega
        | (clear hK h4 he; grind; done)
        | (have hb' : b = i.toNat * 1 := by omega
           refine hK _ (n - 1) _ (by omega) (Weak.keep (env' := [(4, .int (i + 1)), (3, .bs 0 0 m 1), (2, .zs), (0, .e (.sl es))]) ⟨rfl, rfl, rfl, rfl, trivial⟩)
             ⟨i + 1, xs.set i.toNat (es.getD i.toNat []), by omega, by omega, by simp [h2], fun e h => ?_, fun j hj => ?_, ?_⟩
           · rcases List.mem_or_eq_of_mem_set h with h | rfl
             · exact h3 e h
             · exact hrl
           · by_cases hji : (j : Int) < i
             · rw [List.getElem?_set_ne (show i.toNat ≠ j by omega)]; exact h4 j hji
             · have : j = i.toNat := by omega
               subst this
               rw [List.getElem?_set_self (show i.toNat < xs.length by omega), hrow0]
           · congr 2
             rw [hds, hys, hb']
             congr 1
             have q := buf_set (k := 1) (by omega) h3 (i := i.toNat) (show i.toNat < xs.length by omega) hrl
             rw [e1] at q ⊢
             exact q)
    · have hxe : xs = es := by
        refine List.ext_getElem? fun j => ?_
        by_cases hj : (j : Int) < i
        · exact h4 j hj
        · rw [List.getElem?_eq_none (by omega), List.getElem?_eq_none (by omega)]
      cbv
      repeat' first | with_reducible rfl | with_reducible refine And.intro ?_ ?_ | ((with_reducible intro hcc); first | (cases hcc; done) | skip) | ((with_reducible first | show goC _ _ _ _ _ _ _ _ | show goOps _ _ _ _ _ | show goD _ _ _ _ _ _); cbv) | ((with_reducible show okWr _ _ = _); rfl) | (exfalso; simp only [hA.lt, hA.sub, decide_eq_true_eq, decide_eq_false_iff_not, n_cast] at *; omega) | ((with_reducible refine hA.fin_bs (es := es) ?_ ?_ hes)) | ((with_reducible first | refine hA.fin_pl _ _ _ ?_ | refine hA.len _ _ _ _ _ fun z hz hb => ?_ | refine hA.off _ _ _ _ fun b hb => ?_ | refine hA.rep _ _ _ fun ds m hds hm => ?_ | refine hA.alt _ _ (Or.inl ?_)); cbv) | ((with_reducible first | refine hA.st _ _ _ _ _ ⟨?_, fun ds hds => ?_⟩ | refine hA.sapp _ _ _ ⟨?_, fun sl hsl => ?_⟩); rotate_left; cbv) | (simp only [hA.lits]; cbv)
      all_goals try simp only [hA.ar, inR, n_cast, Int.ofNat_eq_natCast, Option.getD_some, Option.getD_none] at *
      all_goals first
        | (rw [hys, hxe]; rfl)
        | omega
        | (clear hK h4 he; grind; done)
        | (trace_state; fail))
set_option maxRecDepth 100000 in
theorem ok19 (l l' : List (List (Bool × Int))) (es fs : List (List E)) (he : es = l.map rsr) (hf : fs = l'.map rsr) : Plain Try.prog 19 [.e (.sl es), .e (.sl fs)] (.bool (decide (l = l'))) := okOf mixed p19 fun A P hA hP => (by
  obtain ⟨r, hr⟩ : ∃ r : Bool, r = decide (l = l') := ⟨_, rfl⟩
  rw [← hr]
  have hl1 : es.length = l.length := by rw [he]; simp
  have hl2 : fs.length = l'.length := by rw [hf]; simp
  cbv
  repeat' first | with_reducible rfl | with_reducible refine And.intro ?_ ?_ | ((with_reducible intro hcc); first | (cases hcc; done) | skip) | ((with_reducible first | show goC _ _ _ _ _ _ _ _ | show goOps _ _ _ _ _ | show goD _ _ _ _ _ _); cbv) | ((with_reducible show okWr _ _ = _); rfl) | ((with_reducible first | refine hA.fin_pl _ _ _ ?_ | refine hA.len _ _ _ _ _ fun z hz hb => ?_ | refine hA.off _ _ _ _ fun b hb => ?_); cbv) | ((with_reducible first | refine hA.sapp _ _ _ ⟨?_, fun sl hsl => ?_⟩); rotate_left; cbv) | (simp only [hA.lits]; cbv)
  all_goals try simp only [hA.ar, inR, n_cast, Int.ofNat_eq_natCast, Option.getD_some, Option.getD_none] at *
  · have : l ≠ l' := fun e => by subst e; clear hr; grind
    rw [hr]; simp [this]
  · have hzz : es.length = fs.length := by clear hr; grind
    refine hA.loopI (fun n s => ∃ i : Int, 0 ≤ i ∧ n + i = l.length ∧ (∀ j : Nat, j < i → l[j]? = l'[j]?) ∧ s = ⟨[(5, .int i), (4, .bool false), (0, .e (.sl es)), (1, .e (.sl fs))], []⟩) l.length _ (Weak.keep (env' := [(5, .int 0), (4, .bool false), (0, .e (.sl es)), (1, .e (.sl fs))]) ⟨rfl, rfl, rfl, rfl, trivial⟩) ⟨0, by omega, by omega, fun j hj => by omega, rfl⟩ ?_
    rintro n s K ⟨i, h0, h1, h2, rfl⟩ hK
    by_cases hin : (0 : Int) ≤ i ∧ i < es.length
    · have hin2 : (0 : Int) ≤ i ∧ i < fs.length := by omega
      obtain ⟨r1, e1, q1⟩ := row_at he hin
      obtain ⟨r2, e2, q2⟩ := row_at hf hin2
      obtain ⟨x1, hx1⟩ : ∃ x, x = r1.map vr := ⟨_, rfl⟩
      have e1 : es.getD i.toNat [] = [E.sl x1] := e1.trans (by rw [hx1])
      obtain ⟨x2, hx2⟩ : ∃ x, x = r2.map vr := ⟨_, rfl⟩
      have e2 : fs.getD i.toNat [] = [E.sl x2] := e2.trans (by rw [hx2])
      have hc := ok59 r1 r2 x1 x2 hx1 hx2
      obtain ⟨c, hcc⟩ : ∃ c : Bool, c = decide ((r1 : List (Bool × Int)) = r2) := ⟨_, rfl⟩
      rw [← hcc] at hc
      have c1 : c = false → r = false := fun e => by
        rw [hr, decide_eq_false_iff_not]
        intro e'
        subst e'
        rw [q1] at q2
        cases q2
        rw [e] at hcc
        simp at hcc
      have c2 : c = true → l[i.toNat]? = l'[i.toNat]? := fun e => by
        rw [e] at hcc
        rw [q1, q2, of_decide_eq_true hcc.symm]
      clear hcc hr
      cbv
      repeat' first | with_reducible rfl | with_reducible refine And.intro ?_ ?_ | ((with_reducible intro hcc); first | (cases hcc; done) | skip) | ((with_reducible first | show goC _ _ _ _ _ _ _ _ | show goOps _ _ _ _ _ | show goD _ _ _ _ _ _); cbv) | ((with_reducible show okWr _ _ = _); rfl) | ((with_reducible first | refine callK_f hA hP hc ?_ ?_ ?_); exact rfl; exact rfl; cbv) | ((with_reducible refine hA.row es _ _ ⟨hin, fun row hrow => ?_⟩); rw [e1] at hrow; subst hrow; cbv) | ((with_reducible refine hA.row fs _ _ ⟨hin2, fun row hrow => ?_⟩); rw [e2] at hrow; subst hrow; cbv) | ((with_reducible first | refine hA.fin_pl _ _ _ ?_ | refine hA.len _ _ _ _ _ fun z hz hb => ?_ | refine hA.off _ _ _ _ fun b hb => ?_); cbv) | ((with_reducible first | refine hA.sapp _ _ _ ⟨?_, fun sl hsl => ?_⟩); rotate_left; cbv) | (simp only [hA.lits]; cbv)
      all_goals try simp only [hA.ar, inR, n_cast, Int.ofNat_eq_natCast, Option.getD_some, Option.getD_none] at *
      all_goals first
        | omega
        | (refine hK _ (n - 1) _ (by omega) (Weak.gc (env' := [(5, .int (i + 1)), (4, .bool false), (0, .e (.sl es)), (1, .e (.sl fs))]) ⟨rfl, rfl, rfl, rfl, trivial⟩ rfl) ⟨i + 1, by omega, by omega, fun j hj => ?_, rfl⟩
           by_cases hji : (j : Int) < i
           · exact h2 j hji
           · have : j = i.toNat := by omega
             rw [this]
             exact c2 (by clear hK h2; grind))
        | (clear hK h2 he hf e1 e2; grind; done)
        | (trace_state; fail)
    · have hll : l = l' := by
        refine List.ext_getElem? fun j => ?_
        by_cases hj : (j : Int) < i
        · exact h2 j hj
        · rw [List.getElem?_eq_none (by omega), List.getElem?_eq_none (by omega)]
      have hr2 : r = true := by rw [hr, hll]; simp
      clear hr
      cbv
      repeat' first | with_reducible rfl | with_reducible refine And.intro ?_ ?_ | ((with_reducible intro hcc); first | (cases hcc; done) | skip) | ((with_reducible first | show goC _ _ _ _ _ _ _ _ | show goOps _ _ _ _ _ | show goD _ _ _ _ _ _); cbv) | ((with_reducible show okWr _ _ = _); rfl) | (exfalso; simp only [hA.lt, hA.sub, decide_eq_true_eq, decide_eq_false_iff_not, n_cast] at *; omega) | ((with_reducible first | refine hA.fin_pl _ _ _ ?_ | refine hA.len _ _ _ _ _ fun z hz hb => ?_ | refine hA.off _ _ _ _ fun b hb => ?_); cbv) | ((with_reducible first | refine hA.sapp _ _ _ ⟨?_, fun sl hsl => ?_⟩); rotate_left; cbv) | (simp only [hA.lits]; cbv)
      all_goals try simp only [hA.ar, inR, n_cast, Int.ofNat_eq_natCast, Option.getD_some, Option.getD_none] at *
      all_goals first
        | (rw [hr2])
        | omega
        | (clear hK h2 hll he hf; grind; done)
        | (trace_state; fail))
set_option maxRecDepth 100000 in
theorem ok127 (n1 : List UInt8) (c1 : Int) (rs : List (List (Bool × Int))) (x : List (List E)) (hx : x = rs.map rsr) (left : Int) (h : 0 ≤ left ∧ left ≤ 1048576) : Plain Try.prog 127 [.agg [.str n1, .int c1, .e (.sl x)], .int left] (.int (cut left (cT (n1, c1, rs)))) := okOf mixed p127 fun A P hA hP => (by
  obtain ⟨a, ha⟩ : ∃ a : Int, a = left - n1.length := ⟨_, rfl⟩
  obtain ⟨r, hr⟩ : ∃ r, r = cut left (cT (n1, c1, rs)) := ⟨_, rfl⟩
  rw [← hr]
  have hs := cSS_nonneg rs
  have hr2 : r = if a - cSS rs < 0 then -1 else a - cSS rs := by rw [hr, cut, cT, show left - ((n1.length : Int) + cSS rs) = a - cSS rs by omega]
  clear hr
  by_cases ha0 : a < 0
  · have hrr : r = -1 := by rw [hr2]; split <;> omega
    have hr2 : True := trivial
    cbv
    repeat' first | with_reducible rfl | with_reducible refine And.intro ?_ ?_ | ((with_reducible intro hcc); first | (cases hcc; done) | skip) | ((with_reducible first | show goC _ _ _ _ _ _ _ _ | show goOps _ _ _ _ _ | show goD _ _ _ _ _ _); cbv) | ((with_reducible show okWr _ _ = _); rfl) | (exfalso; simp only [hA.lt, hA.sub, decide_eq_true_eq, decide_eq_false_iff_not, n_cast] at *; omega) | ((with_reducible first | refine hA.fin_pl _ _ _ ?_ | refine hA.slen _ _ _ _ _ fun z hz hb => ?_); cbv) | (simp only [hA.lits]; cbv)
    all_goals try simp only [hA.ar, inR, n_cast, Int.ofNat_eq_natCast, Option.getD_some, Option.getD_none] at *
    all_goals first | omega | (rw [hrr]) | (clear hr2; simp at *; omega) | (trace_state; fail)
  · have h46 : ∀ b, b = a → Plain Try.prog 16 [.e (.sl x), .int b] (.int (cut a (cSS rs))) := fun b hb => hb ▸ ok16 rs _ hx a (by omega)
    obtain ⟨u, hu⟩ : ∃ u, u = cut a (cSS rs) := ⟨_, rfl⟩
    rw [← hu] at h46
    rw [cut] at hu
    rw [← hu] at hr2
    cbv
    repeat' first | with_reducible rfl | with_reducible refine And.intro ?_ ?_ | ((with_reducible intro hcc); first | (cases hcc; done) | skip) | ((with_reducible first | show goC _ _ _ _ _ _ _ _ | show goOps _ _ _ _ _ | show goD _ _ _ _ _ _); cbv) | ((with_reducible show okWr _ _ = _); rfl) | ((with_reducible refine callK_eq hA hP ?_ ?_ ?_ (Wks.refl _) (fun _ _ => h46 _ ?_)); exact rfl; exact rfl; cbv) | ((with_reducible first | refine hA.fin_pl _ _ _ ?_ | refine hA.slen _ _ _ _ _ fun z hz hb => ?_); cbv) | (simp only [hA.lits]; cbv)
    all_goals try simp only [hA.ar, inR, n_cast, Int.ofNat_eq_natCast, Option.getD_some, Option.getD_none] at *
    all_goals first | omega | (rw [hr2]; done) | (have : u = -1 := (by simp only [decide_eq_true_eq, decide_eq_false_iff_not] at *; split at hu <;> omega); rw [hr2, this]; done) | (clear h46; simp at *; omega) | (trace_state; fail))
set_option maxRecDepth 100000 in
theorem ok72 (l : List (Tb)) (es : List (List E)) (he : es = l.map tbr) (left : Int) (h : 0 ≤ left ∧ left ≤ 1048576) : Plain Try.prog 72 [.e (.sl es), .int left] (.int (cut left (l.length + sumC cT l))) := okOf mixed p72 fun A P hA hP => (by
  have hl1 : es.length = l.length := by rw [he]; simp
  have hsn : ∀ l : List (Tb), 0 ≤ sumC cT l := sumC_nonneg cT_nonneg
  obtain ⟨r, hr⟩ : ∃ r, r = cut left (l.length + sumC cT l) := ⟨_, rfl⟩
  rw [← hr]
  have hr2 : r = cut (left - es.length) (sumC cT l) := by rw [hr, hl1, cut, cut]; congr 1 <;> (try apply propext) <;> omega
  clear hr
  cbv
  repeat' first | with_reducible rfl | with_reducible refine And.intro ?_ ?_ | ((with_reducible intro hcc); first | (cases hcc; done) | skip) | ((with_reducible first | show goC _ _ _ _ _ _ _ _ | show goOps _ _ _ _ _ | show goD _ _ _ _ _ _); cbv) | ((with_reducible show okWr _ _ = _); rfl) | ((with_reducible first | refine hA.fin_pl _ _ _ ?_ | refine hA.len _ _ _ _ _ fun z hz hb => ?_ | refine hA.off _ _ _ _ fun b hb => ?_); cbv) | ((with_reducible first | refine hA.sapp _ _ _ ⟨?_, fun sl hsl => ?_⟩); rotate_left; cbv) | (simp only [hA.lits]; cbv)
  all_goals try simp only [hA.ar, inR, n_cast, Int.ofNat_eq_natCast, Option.getD_some, Option.getD_none] at *
  all_goals try (first | omega | (have := hb trivial trivial trivial; omega) | (have : r = -1 := (by simp only [decide_eq_true_eq] at *; have := hsn l; rw [hr2]; unfold cut; split <;> omega); rw [this]; done))
  · refine hA.loopI (fun n s => ∃ (i lf : Int), 0 ≤ i ∧ n + i = es.length ∧ 0 ≤ lf ∧ lf ≤ 1048576 ∧ r = cut lf (sumC cT (l.drop i.toNat)) ∧
        s = ⟨[(5, .int i), (0, .e (.sl es)), (1, .int lf), (4, .int 0)], []⟩) es.length _
      (Weak.keep (env' := [(5, .int 0), (0, .e (.sl es)), (1, .int (left - z)), (4, .int 0)]) ⟨rfl, rfl, rfl, rfl, trivial⟩) ⟨0, left - z, by omega, by omega, by simp only [decide_eq_false_iff_not] at *; omega, by omega, (by rw [hr2, hz]; rfl), rfl⟩ ?_
    rintro n s K ⟨i, lf, h0, h1, h2, h3, h4, rfl⟩ hK
    clear hr2
    by_cases hin : (0 : Int) ≤ i ∧ i < es.length
    · obtain ⟨⟨n1, c1, rs1⟩, e1, q1⟩ := row_at he hin
      obtain ⟨x1, hx1⟩ : ∃ x, x = rs1.map rsr := ⟨_, rfl⟩
      have e1 : es.getD i.toNat [] = [E.str n1, E.int c1, E.sl x1] := e1.trans (by rw [hx1])
      rw [sumC_drop q1] at h4
      obtain ⟨S, hS⟩ : ∃ S, S = sumC cT (l.drop (i.toNat + 1)) := ⟨_, rfl⟩
      have hS0 : 0 ≤ S := hS ▸ hsn _
      obtain ⟨c, hcost⟩ : ∃ c, c = cT (n1, c1, rs1) := ⟨_, rfl⟩
      have hc0 : 0 ≤ c := hcost ▸ cT_nonneg _
      have hc := ok127 n1 c1 rs1 x1 hx1 lf ⟨h2, h3⟩
      rw [← hS, ← hcost] at h4
      rw [← hcost] at hc
      obtain ⟨u, hu⟩ : ∃ u, u = cut lf c := ⟨_, rfl⟩
      rw [← hu] at hc
      have e8 : (i + 1).toNat = i.toNat + 1 := by omega
      have g1 : u < 0 → r = -1 := fun a => by rw [h4]; unfold cut at hu ⊢; split at hu <;> split <;> omega
      have g2 : 0 ≤ u → r = cut u S ∧ u ≤ lf := fun a => by
        have hu2 : u = lf - c := by rw [hu] at a ⊢; unfold cut at a ⊢; split at a <;> split <;> omega
        refine ⟨?_, by omega⟩
        rw [h4, hu2]
        unfold cut
        rw [show lf - (c + S) = lf - c - S by omega]
      clear h4 hu hcost
      cbv
      repeat' first | with_reducible rfl | with_reducible refine And.intro ?_ ?_ | ((with_reducible intro hcc); first | (cases hcc; done) | skip) | ((with_reducible first | show goC _ _ _ _ _ _ _ _ | show goOps _ _ _ _ _ | show goD _ _ _ _ _ _); cbv) | ((with_reducible show okWr _ _ = _); rfl) | ((with_reducible first | refine callK_f hA hP hc ?_ ?_ ?_); exact rfl; exact rfl; cbv) | ((with_reducible refine hA.row es _ _ ⟨hin, fun row hrow => ?_⟩); rw [e1] at hrow; subst hrow; cbv) | ((with_reducible first | refine hA.fin_pl _ _ _ ?_ | refine hA.len _ _ _ _ _ fun z hz hb => ?_ | refine hA.off _ _ _ _ fun b hb => ?_); cbv) | ((with_reducible first | refine hA.sapp _ _ _ ⟨?_, fun sl hsl => ?_⟩); rotate_left; cbv) | (simp only [hA.lits]; cbv)
      all_goals try simp only [hA.ar, inR, n_cast, Int.ofNat_eq_natCast, Option.getD_some, Option.getD_none] at *
      all_goals first
        | omega
        | (clear hK g1 g2 he; simp at *; omega)
        | (rw [g1 (by clear hK g2; simp at *; omega)]; done)
        | (have hu0 : 0 ≤ u := (by clear hK; simp at *; omega)
           exact hK _ (n - 1) _ (by omega) (Weak.keep (env' := [(5, .int (i + 1)), (0, .e (.sl es)), (1, .int u), (4, .int 0)]) ⟨rfl, rfl, rfl, rfl, trivial⟩) ⟨i + 1, u, by omega, by omega, hu0, by have := (g2 hu0).2; omega, by rw [e8, ← hS]; exact (g2 hu0).1, rfl⟩)
        | (clear hK g1 g2 he; simp at *; omega)
        | (trace_state; fail)
    · have hd : l.drop i.toNat = [] := by rw [List.drop_eq_nil_iff]; omega
      rw [hd] at h4
      have h5 : r = lf := by rw [h4, sumC, cut, if_neg (by omega)]; omega
      clear h4 hK
      cbv
      repeat' first | with_reducible rfl | with_reducible refine And.intro ?_ ?_ | ((with_reducible intro hcc); first | (cases hcc; done) | skip) | ((with_reducible first | show goC _ _ _ _ _ _ _ _ | show goOps _ _ _ _ _ | show goD _ _ _ _ _ _); cbv) | ((with_reducible show okWr _ _ = _); rfl) | (exfalso; simp only [hA.lt, hA.sub, decide_eq_true_eq, decide_eq_false_iff_not, n_cast] at *; omega) | ((with_reducible first | refine hA.fin_pl _ _ _ ?_ | refine hA.len _ _ _ _ _ fun z hz hb => ?_ | refine hA.off _ _ _ _ fun b hb => ?_); cbv) | ((with_reducible first | refine hA.sapp _ _ _ ⟨?_, fun sl hsl => ?_⟩); rotate_left; cbv) | (simp only [hA.lits]; cbv)
      all_goals try simp only [hA.ar, inR, n_cast, Int.ofNat_eq_natCast, Option.getD_some, Option.getD_none] at *
      all_goals first
        | (rw [h5])
        | omega
        | (clear he; simp at *; omega)
        | (trace_state; fail))
theorem ok28 (ts : List Tb) (x : List (List E)) (hx : x = ts.map tbr) (left : Int) (h : 0 ≤ left ∧ left ≤ 1048576) : Plain Try.prog 28 [.agg [.e (.sl x)], .int left] (.int (cut left (cTS ts))) := okOf mixed p28 fun A P hA hP => (by
  have h65 : Plain Try.prog 72 [.e (.sl x), .int left] (.int (cut left (cTS ts))) := ok72 ts _ hx left h
  obtain ⟨u, hu⟩ : ∃ u, u = cut left (cTS ts) := ⟨_, rfl⟩
  rw [← hu] at h65 ⊢
  have hu2 : u < 0 → u = -1 := fun a => by rw [hu, cut] at a ⊢; split at a <;> split <;> omega
  clear hu
  cbv
  repeat' first | with_reducible rfl | with_reducible refine And.intro ?_ ?_ | ((with_reducible intro hcc); first | (cases hcc; done) | skip) | ((with_reducible first | show goC _ _ _ _ _ _ _ _ | show goOps _ _ _ _ _ | show goD _ _ _ _ _ _); cbv) | ((with_reducible show okWr _ _ = _); rfl) | ((with_reducible first | refine callK_f hA hP h65 ?_ ?_ ?_); exact rfl; exact rfl; cbv) | ((with_reducible first | refine hA.fin_pl _ _ _ ?_); cbv) | (simp only [hA.lits]; cbv)
  all_goals try simp only [hA.ar, inR, n_cast, Int.ofNat_eq_natCast, Option.getD_some, Option.getD_none] at *
  all_goals first | rfl | omega | (rw [hu2 (by simp at *; omega)]) | (trace_state; fail))
set_option maxRecDepth 100000 in
theorem ok134 (n1 : List UInt8) (c1 : Int) (rs : List (List (Bool × Int))) (x : List (List E)) (hx : x = rs.map rsr) (h1 : rs.length ≤ 1048576) (h2 : ∀ r ∈ rs, r.length ≤ 1048576) : Plain Try.prog 134 [.agg [.str n1, .int c1, .e (.sl x)]] (.agg [.str n1, .int c1, .e (.sl x)]) := okOf mixed p134 fun A P hA hP => (by
  have h48 := ok18 rs x hx (by rw [hx, List.length_map]; exact h1) h2
  cbv
  repeat' first | with_reducible rfl | with_reducible refine And.intro ?_ ?_ | ((with_reducible intro hcc); first | (cases hcc; done) | skip) | ((with_reducible first | show goC _ _ _ _ _ _ _ _ | show goOps _ _ _ _ _ | show goD _ _ _ _ _ _); cbv) | ((with_reducible show okWr _ _ = _); rfl) | ((with_reducible first | refine callK_f hA hP h48 ?_ ?_ ?_); exact rfl; exact rfl; cbv) | ((with_reducible first | refine hA.fin_pl _ _ _ ?_); cbv) | ((with_reducible first | refine hA.st _ _ _ _ _ ⟨?_, fun ds hds => ?_⟩); rotate_left; cbv) | (simp only [hA.lits]; cbv)
  all_goals try simp only [hA.ar, inR, n_cast, Int.ofNat_eq_natCast, Option.getD_some, Option.getD_none] at *
  )
set_option maxRecDepth 100000 in
set_option maxHeartbeats 1000000 in
theorem ok76 (l : List (Tb)) (es : List (List E)) (he : es = l.map tbr) (hlen : es.length ≤ 1048576) (hb2 : ∀ t ∈ l, t.2.2.length ≤ 1048576 ∧ ∀ r ∈ t.2.2, r.length ≤ 1048576) : Plain Try.prog 76 [.e (.sl es)] (.e (.sl es)) := okOf mixed p76 fun A P hA hP => (by
  have hl1 : es.length = l.length := by rw [he]; simp
  have hes : ∀ e ∈ es, e.length = 3 := by
    rw [he]
    intro e h
    obtain ⟨p, _, rfl⟩ := List.mem_map.1 h
    rfl
  cbv
  repeat' first | with_reducible rfl | with_reducible refine And.intro ?_ ?_ | ((with_reducible intro hcc); first | (cases hcc; done) | skip) | ((with_reducible first | show goC _ _ _ _ _ _ _ _ | show goOps _ _ _ _ _ | show goD _ _ _ _ _ _); cbv) | ((with_reducible show okWr _ _ = _); rfl) | ((with_reducible first | refine hA.fin_pl _ _ _ ?_ | refine hA.len _ _ _ _ _ fun z hz hb => ?_ | refine hA.off _ _ _ _ fun b hb => ?_ | refine hA.rep _ _ _ fun ds m hds hm => ?_ | refine hA.alt _ _ (Or.inl ?_)); cbv) | ((with_reducible first | refine hA.st _ _ _ _ _ ⟨?_, fun ds hds => ?_⟩ | refine hA.sapp _ _ _ ⟨?_, fun sl hsl => ?_⟩); rotate_left; cbv) | (simp only [hA.lits]; cbv)
  all_goals try simp only [hA.ar, inR, n_cast, Int.ofNat_eq_natCast, Option.getD_some, Option.getD_none] at *
  · omega
  · omega
  · refine hA.loopI (fun n s => ∃ (i : Int) (xs : List (List E)), 0 ≤ i ∧ n + i = es.length ∧ xs.length = es.length ∧ (∀ e ∈ xs, e.length = 3) ∧ (∀ j : Nat, j < i → xs[j]? = es[j]?) ∧
        s = ⟨[(4, .int i), (3, .bs 0 0 m 3), (2, .zs), (0, .e (.sl es))], [.box (xs.flatten.map .e)]⟩) es.length _
      (Weak.keep (env' := [(4, .int 0), (3, .bs 0 0 m 3), (2, .zs), (0, .e (.sl es))]) ⟨rfl, rfl, rfl, rfl, trivial⟩)
      ⟨0, List.replicate m [E.str [], E.int 0, E.sl []], by omega, by omega, by simp; omega, by simp, fun j hj => by omega, by rw [← buf_zero, hm]; rw [hds]; rfl⟩ ?_
    rintro n s K ⟨i, xs, h0, h1, h2, h3, h4, rfl⟩ hK
    obtain ⟨ys, hys⟩ : ∃ ys, ys = xs.flatten.map D.e := ⟨_, rfl⟩
    have hyl : ys.length = xs.length * 3 := by rw [hys, List.length_map, flatten_len h3]
    rw [← hys]
    by_cases hin : (0 : Int) ≤ i ∧ i < es.length
    · obtain ⟨⟨n1, c1, rs1⟩, e1, q1⟩ := row_at he hin
      obtain ⟨x1, hx1⟩ : ∃ x, x = rs1.map rsr := ⟨_, rfl⟩
      have e1 : es.getD i.toNat [] = [E.str n1, E.int c1, E.sl x1] := e1.trans (by rw [hx1])
      have hc := ok134 n1 c1 rs1 x1 hx1 (hb2 _ (List.mem_of_getElem? q1)).1 (hb2 _ (List.mem_of_getElem? q1)).2
      have hrow0 : es[i.toNat]? = some (es.getD i.toNat []) := by
        have : i.toNat < es.length := by omega
        simp [List.getD, this]
      have hrl : (es.getD i.toNat []).length = 3 := hes _ (List.mem_of_getElem? hrow0)
      cbv
      repeat' first | with_reducible rfl | with_reducible refine And.intro ?_ ?_ | ((with_reducible intro hcc); first | (cases hcc; done) | skip) | ((with_reducible first | show goC _ _ _ _ _ _ _ _ | show goOps _ _ _ _ _ | show goD _ _ _ _ _ _); cbv) | ((with_reducible show okWr _ _ = _); rfl) | ((with_reducible first | refine callK_f hA hP hc ?_ ?_ ?_); exact rfl; exact rfl; cbv) | ((with_reducible refine hA.row es _ _ ⟨hin, fun row hrow => ?_⟩); rw [e1] at hrow; subst hrow; cbv) | ((with_reducible first | refine hA.fin_pl _ _ _ ?_ | refine hA.len _ _ _ _ _ fun z hz hb => ?_ | refine hA.off _ _ _ _ fun b hb => ?_ | refine hA.rep _ _ _ fun ds m hds hm => ?_ | refine hA.alt _ _ (Or.inl ?_)); cbv) | ((with_reducible first | refine hA.st _ _ _ _ _ ⟨?_, fun ds hds => ?_⟩ | refine hA.sapp _ _ _ ⟨?_, fun sl hsl => ?_⟩); rotate_left; cbv) | (simp only [hA.lits]; cbv)
      all_goals try simp only [hA.ar, inR, n_cast, Int.ofNat_eq_natCast, Option.getD_some, Option.getD_none] at *
      all_goals first
        | (show _ < (m : Int); omega)
        | omega
        | (clear hK h4 he; grind; done)
        | (have hb' : b = i.toNat * 3 := by omega
           refine hK _ (n - 1) _ (by omega) (Weak.keep (env' := [(4, .int (i + 1)), (3, .bs 0 0 m 3), (2, .zs), (0, .e (.sl es))]) ⟨rfl, rfl, rfl, rfl, trivial⟩)
             ⟨i + 1, xs.set i.toNat (es.getD i.toNat []), by omega, by omega, by simp [h2], fun e h => ?_, fun j hj => ?_, ?_⟩
           · rcases List.mem_or_eq_of_mem_set h with h | rfl
             · exact h3 e h
             · exact hrl
           · by_cases hji : (j : Int) < i
             · rw [List.getElem?_set_ne (show i.toNat ≠ j by omega)]; exact h4 j hji
             · have : j = i.toNat := by omega
               subst this
               rw [List.getElem?_set_self (show i.toNat < xs.length by omega), hrow0]
           · congr 2
             rw [hds, hys, hb']
             congr 1
             have q := buf_set (k := 3) (by omega) h3 (i := i.toNat) (show i.toNat < xs.length by omega) hrl
             rw [e1] at q ⊢
             exact q)
    · have hxe : xs = es := by
        refine List.ext_getElem? fun j => ?_
        by_cases hj : (j : Int) < i
        · exact h4 j hj
        · rw [List.getElem?_eq_none (by omega), List.getElem?_eq_none (by omega)]
      cbv
      repeat' first | with_reducible rfl | with_reducible refine And.intro ?_ ?_ | ((with_reducible intro hcc); first | (cases hcc; done) | skip) | ((with_reducible first | show goC _ _ _ _ _ _ _ _ | show goOps _ _ _ _ _ | show goD _ _ _ _ _ _); cbv) | ((with_reducible show okWr _ _ = _); rfl) | (exfalso; simp only [hA.lt, hA.sub, decide_eq_true_eq, decide_eq_false_iff_not, n_cast] at *; omega) | ((with_reducible refine hA.fin_bs (es := es) ?_ ?_ hes)) | ((with_reducible first | refine hA.fin_pl _ _ _ ?_ | refine hA.len _ _ _ _ _ fun z hz hb => ?_ | refine hA.off _ _ _ _ fun b hb => ?_ | refine hA.rep _ _ _ fun ds m hds hm => ?_ | refine hA.alt _ _ (Or.inl ?_)); cbv) | ((with_reducible first | refine hA.st _ _ _ _ _ ⟨?_, fun ds hds => ?_⟩ | refine hA.sapp _ _ _ ⟨?_, fun sl hsl => ?_⟩); rotate_left; cbv) | (simp only [hA.lits]; cbv)
      all_goals try simp only [hA.ar, inR, n_cast, Int.ofNat_eq_natCast, Option.getD_some, Option.getD_none] at *
      all_goals first
        | (rw [hys, hxe]; rfl)
        | omega
        | (clear hK h4 he; grind; done)
        | (trace_state; fail))
theorem ok31 (ts : List Tb) (x : List (List E)) (hx : x = ts.map tbr) (h1 : ts.length ≤ 1048576) (h2 : ∀ t ∈ ts, t.2.2.length ≤ 1048576 ∧ ∀ r ∈ t.2.2, r.length ≤ 1048576) : Plain Try.prog 31 [.agg [.e (.sl x)]] (.agg [.e (.sl x)]) := okOf mixed p31 fun A P hA hP => (by
  have h68 := ok76 ts x hx (by rw [hx, List.length_map]; exact h1) h2
  cbv
  repeat' first | with_reducible rfl | with_reducible refine And.intro ?_ ?_ | ((with_reducible intro hcc); first | (cases hcc; done) | skip) | ((with_reducible first | show goC _ _ _ _ _ _ _ _ | show goOps _ _ _ _ _ | show goD _ _ _ _ _ _); cbv) | ((with_reducible show okWr _ _ = _); rfl) | ((with_reducible first | refine callK_f hA hP h68 ?_ ?_ ?_); exact rfl; exact rfl; cbv) | ((with_reducible first | refine hA.fin_pl _ _ _ ?_); cbv) | ((with_reducible first | refine hA.st _ _ _ _ _ ⟨?_, fun ds hds => ?_⟩); rotate_left; cbv) | (simp only [hA.lits]; cbv)
  all_goals try simp only [hA.ar, inR, n_cast, Int.ofNat_eq_natCast, Option.getD_some, Option.getD_none] at *
  )
set_option maxRecDepth 100000 in
theorem ok139 (n1 : List UInt8) (c1 : Int) (rs : List (List (Bool × Int))) (x : List (List E)) (hx : x = rs.map rsr) (n2 : List UInt8) (c2 : Int) (rs' : List (List (Bool × Int))) (x' : List (List E)) (hx' : x' = rs'.map rsr) :
    Plain Try.prog 139 [.agg [.str n1, .int c1, .e (.sl x)], .agg [.str n2, .int c2, .e (.sl x')]] (.bool (decide ((n1, c1, rs) = (n2, c2, rs')))) := okOf mixed p139 fun A P hA hP => (by
  have h49 := ok19 rs rs' x x' hx hx'
  obtain ⟨c, hc⟩ : ∃ c, c = decide (rs = rs') := ⟨_, rfl⟩
  rw [← hc] at h49
  obtain ⟨r, hr⟩ : ∃ r, r = decide ((n1, c1, rs) = (n2, c2, rs')) := ⟨_, rfl⟩
  rw [← hr]
  have hr2 : r = (decide (n1 = n2) && decide (c1 = c2) && c) := by rw [hr, hc]; by_cases a : n1 = n2 <;> by_cases b : c1 = c2 <;> simp [a, b]
  clear hr hc
  cbv
  repeat' first | with_reducible rfl | with_reducible refine And.intro ?_ ?_ | ((with_reducible intro hcc); first | (cases hcc; done) | skip) | ((with_reducible first | show goC _ _ _ _ _ _ _ _ | show goOps _ _ _ _ _ | show goD _ _ _ _ _ _); cbv) | ((with_reducible show okWr _ _ = _); rfl) | ((with_reducible first | refine callK_f hA hP h49 ?_ ?_ ?_); exact rfl; exact rfl; cbv) | ((with_reducible first | refine hA.fin_pl _ _ _ ?_); cbv) | (simp only [hA.lits]; cbv)
  all_goals try simp only [hA.ar, inR, n_cast, Int.ofNat_eq_natCast, Option.getD_some, Option.getD_none] at *
  all_goals first | rfl | (clear h49; grind; done) | (clear h49; simp at *; grind; done) | (trace_state; fail))
set_option maxRecDepth 100000 in
theorem ok79 (l l' : List (Tb)) (es fs : List (List E)) (he : es = l.map tbr) (hf : fs = l'.map tbr) : Plain Try.prog 79 [.e (.sl es), .e (.sl fs)] (.bool (decide (l = l'))) := okOf mixed p79 fun A P hA hP => (by
  obtain ⟨r, hr⟩ : ∃ r : Bool, r = decide (l = l') := ⟨_, rfl⟩
  rw [← hr]
  have hl1 : es.length = l.length := by rw [he]; simp
  have hl2 : fs.length = l'.length := by rw [hf]; simp
  cbv
  repeat' first | with_reducible rfl | with_reducible refine And.intro ?_ ?_ | ((with_reducible intro hcc); first | (cases hcc; done) | skip) | ((with_reducible first | show goC _ _ _ _ _ _ _ _ | show goOps _ _ _ _ _ | show goD _ _ _ _ _ _); cbv) | ((with_reducible show okWr _ _ = _); rfl) | ((with_reducible first | refine hA.fin_pl _ _ _ ?_ | refine hA.len _ _ _ _ _ fun z hz hb => ?_ | refine hA.off _ _ _ _ fun b hb => ?_); cbv) | ((with_reducible first | refine hA.sapp _ _ _ ⟨?_, fun sl hsl => ?_⟩); rotate_left; cbv) | (simp only [hA.lits]; cbv)
  all_goals try simp only [hA.ar, inR, n_cast, Int.ofNat_eq_natCast, Option.getD_some, Option.getD_none] at *
  · have : l ≠ l' := fun e => by subst e; clear hr; grind
    rw [hr]; simp [this]
  · have hzz : es.length = fs.length := by clear hr; grind
    refine hA.loopI (fun n s => ∃ i : Int, 0 ≤ i ∧ n + i = l.length ∧ (∀ j : Nat, j < i → l[j]? = l'[j]?) ∧ s = ⟨[(5, .int i), (4, .bool false), (0, .e (.sl es)), (1, .e (.sl fs))], []⟩) l.length _ (Weak.keep (env' := [(5, .int 0), (4, .bool false), (0, .e (.sl es)), (1, .e (.sl fs))]) ⟨rfl, rfl, rfl, rfl, trivial⟩) ⟨0, by omega, by omega, fun j hj => by omega, rfl⟩ ?_
    rintro n s K ⟨i, h0, h1, h2, rfl⟩ hK
    by_cases hin : (0 : Int) ≤ i ∧ i < es.length
    · have hin2 : (0 : Int) ≤ i ∧ i < fs.length := by omega
      obtain ⟨⟨n1, c1, rs1⟩, e1, q1⟩ := row_at he hin
      obtain ⟨⟨n2, c2, rs2⟩, e2, q2⟩ := row_at hf hin2
      obtain ⟨x1, hx1⟩ : ∃ x, x = rs1.map rsr := ⟨_, rfl⟩
      have e1 : es.getD i.toNat [] = [E.str n1, E.int c1, E.sl x1] := e1.trans (by rw [hx1])
      obtain ⟨x2, hx2⟩ : ∃ x, x = rs2.map rsr := ⟨_, rfl⟩
      have e2 : fs.getD i.toNat [] = [E.str n2, E.int c2, E.sl x2] := e2.trans (by rw [hx2])
      have hc := ok139 n1 c1 rs1 x1 hx1 n2 c2 rs2 x2 hx2
      obtain ⟨c, hcc⟩ : ∃ c : Bool, c = decide (((n1, c1, rs1) : Tb) = (n2, c2, rs2)) := ⟨_, rfl⟩
      rw [← hcc] at hc
      have c1 : c = false → r = false := fun e => by
        rw [hr, decide_eq_false_iff_not]
        intro e'
        subst e'
        rw [q1] at q2
        cases q2
        rw [e] at hcc
        simp at hcc
      have c2 : c = true → l[i.toNat]? = l'[i.toNat]? := fun e => by
        rw [e] at hcc
        rw [q1, q2, of_decide_eq_true hcc.symm]
      clear hcc hr
      cbv
      repeat' first | with_reducible rfl | with_reducible refine And.intro ?_ ?_ | ((with_reducible intro hcc); first | (cases hcc; done) | skip) | ((with_reducible first | show goC _ _ _ _ _ _ _ _ | show goOps _ _ _ _ _ | show goD _ _ _ _ _ _); cbv) | ((with_reducible show okWr _ _ = _); rfl) | ((with_reducible first | refine callK_f hA hP hc ?_ ?_ ?_); exact rfl; exact rfl; cbv) | ((with_reducible refine hA.row es _ _ ⟨hin, fun row hrow => ?_⟩); rw [e1] at hrow; subst hrow; cbv) | ((with_reducible refine hA.row fs _ _ ⟨hin2, fun row hrow => ?_⟩); rw [e2] at hrow; subst hrow; cbv) | ((with_reducible first | refine hA.fin_pl _ _ _ ?_ | refine hA.len _ _ _ _ _ fun z hz hb => ?_ | refine hA.off _ _ _ _ fun b hb => ?_); cbv) | ((with_reducible first | refine hA.sapp _ _ _ ⟨?_, fun sl hsl => ?_⟩); rotate_left; cbv) | (simp only [hA.lits]; cbv)
      all_goals try simp only [hA.ar, inR, n_cast, Int.ofNat_eq_natCast, Option.getD_some, Option.getD_none] at *
      all_goals first
        | omega
        | (refine hK _ (n - 1) _ (by omega) (Weak.gc (env' := [(5, .int (i + 1)), (4, .bool false), (0, .e (.sl es)), (1, .e (.sl fs))]) ⟨rfl, rfl, rfl, rfl, trivial⟩ rfl) ⟨i + 1, by omega, by omega, fun j hj => ?_, rfl⟩
           by_cases hji : (j : Int) < i
           · exact h2 j hji
           · have : j = i.toNat := by omega
             rw [this]
             exact c2 (by clear hK h2; grind))
        | (clear hK h2 he hf e1 e2; grind; done)
        | (trace_state; fail)
    · have hll : l = l' := by
        refine List.ext_getElem? fun j => ?_
        by_cases hj : (j : Int) < i
        · exact h2 j hj
        · rw [List.getElem?_eq_none (by omega), List.getElem?_eq_none (by omega)]
      have hr2 : r = true := by rw [hr, hll]; simp
      clear hr
      cbv
      repeat' first | with_reducible rfl | with_reducible refine And.intro ?_ ?_ | ((with_reducible intro hcc); first | (cases hcc; done) | skip) | ((with_reducible first | show goC _ _ _ _ _ _ _ _ | show goOps _ _ _ _ _ | show goD _ _ _ _ _ _); cbv) | ((with_reducible show okWr _ _ = _); rfl) | (exfalso; simp only [hA.lt, hA.sub, decide_eq_true_eq, decide_eq_false_iff_not, n_cast] at *; omega) | ((with_reducible first | refine hA.fin_pl _ _ _ ?_ | refine hA.len _ _ _ _ _ fun z hz hb => ?_ | refine hA.off _ _ _ _ fun b hb => ?_); cbv) | ((with_reducible first | refine hA.sapp _ _ _ ⟨?_, fun sl hsl => ?_⟩); rotate_left; cbv) | (simp only [hA.lits]; cbv)
      all_goals try simp only [hA.ar, inR, n_cast, Int.ofNat_eq_natCast, Option.getD_some, Option.getD_none] at *
      all_goals first
        | (rw [hr2])
        | omega
        | (clear hK h2 hll he hf; grind; done)
        | (trace_state; fail))
theorem ok34 (ts ts' : List Tb) (x x' : List (List E)) (hx : x = ts.map tbr) (hx' : x' = ts'.map tbr) : Plain Try.prog 34 [.agg [.e (.sl x)], .agg [.e (.sl x')]] (.bool (decide (ts = ts'))) := okOf mixed p34 fun A P hA hP => (by
  have h70 := ok79 ts ts' x x' hx hx'
  obtain ⟨c, hc⟩ : ∃ c, c = decide (ts = ts') := ⟨_, rfl⟩
  rw [← hc] at h70 ⊢
  cbv
  repeat' first | with_reducible rfl | with_reducible refine And.intro ?_ ?_ | ((with_reducible intro hcc); first | (cases hcc; done) | skip) | ((with_reducible first | show goC _ _ _ _ _ _ _ _ | show goOps _ _ _ _ _ | show goD _ _ _ _ _ _); cbv) | ((with_reducible show okWr _ _ = _); rfl) | ((with_reducible first | refine callK_f hA hP h70 ?_ ?_ ?_); exact rfl; exact rfl; cbv) | ((with_reducible first | refine hA.fin_pl _ _ _ ?_); cbv) | (simp only [hA.lits]; cbv)
  all_goals try simp only [hA.ar, inR, n_cast, Int.ofNat_eq_natCast, Option.getD_some, Option.getD_none] at *
  all_goals first | rfl | (clear h70 hc; grind; done) | (trace_state; fail))
end Go.Proofs.Ytfplalbognalkaa.Ab
/- The program's sort of rows, whole, with numbers. -/
namespace Go.Proofs.Ytfplalbognalkaa.Ab.NS
open Go
/-- Rows with numbers from q on. -/
def nums : Nat → List Ab.Row → List Row
  | _, [] => []
  | q, r :: l => (q, r) :: nums (q + 1) l
theorem nums_len : ∀ (q : Nat) (l : List Ab.Row), (nums q l).length = l.length
  | _, [] => rfl
  | q, _ :: l => by simp [nums, nums_len (q + 1) l]
theorem nums_get : ∀ (q : Nat) (l : List Ab.Row) (j : Nat), (nums q l)[j]? = l[j]?.map fun r => (q + j, r)
  | _, [], j => by simp [nums]
  | q, r :: l, 0 => by simp [nums]
  | q, r :: l, j + 1 => by
    simp only [nums, List.getElem?_cons_succ, nums_get (q + 1) l j]
    congr 1
    funext r
    congr 1
    omega
theorem nums_mem {q : Nat} {l : List Ab.Row} {r : Row} (h : r ∈ nums q l) : q ≤ r.1 ∧ r.2 ∈ l := by
  obtain ⟨j, hj⟩ := List.mem_iff_getElem?.1 h
  rw [nums_get] at hj
  obtain ⟨x, hx, rfl⟩ := Option.map_eq_some_iff.1 hj
  exact ⟨Nat.le_add_right _ _, List.mem_of_getElem? hx⟩
theorem nums_stb : ∀ (q : Nat) (l : List Ab.Row), Stb (nums q l)
  | _, [] => List.Pairwise.nil
  | q, r :: l => List.pairwise_cons.2 ⟨fun x hx _ => by have := (nums_mem hx).1; show q ≤ x.1; omega, nums_stb (q + 1) l⟩
/-- The rows of the answer. -/
def sortN (q : Nat) (l : List Ab.Row) : List Row := srt (nums q (l.map clR))
theorem sortN_len (q : Nat) (l : List Ab.Row) : (sortN q l).length = l.length := by rw [sortN, srt_len, nums_len, List.length_map]
def nrow (r : Row) : List E := [.fs r.1 (r.2.map vr)]
set_option maxRecDepth 100000 in
set_option maxHeartbeats 1000000 in
theorem ok11 (q0 : Nat) (l : List Ab.Row) (es : List (List E)) (he : es = l.map rsr) (hlen : es.length ≤ 1048576) (hr : ∀ r ∈ l, r.length ≤ 1048576) :
    Proc Try.prog 11 (fun _ => [.e (.sl es)]) (fun _ => [.ids q0]) (fun _ => .e (.fs (q0 + es.length) ((sortN q0 l).map nrow))) (fun _ => [.ids (q0 + es.length + 1)]) := procOf mixed p11 (tok_side (es := [.sl es])) fun A P hA hP => (by
  have hl1 : es.length = l.length := by rw [he]; simp
  obtain ⟨c, hc⟩ : ∃ c, c = nums q0 (l.map clR) := ⟨_, rfl⟩
  have hcl : c.length = es.length := by rw [hc, hl1, nums_len]; simp
  have hcc0 : ∀ r ∈ c, Cl r := by
    rw [hc]
    intro r h
    obtain ⟨p, _, e⟩ := List.mem_map.1 (nums_mem h).2
    show Ab.Cl r.2
    rw [← e]
    exact clR_cl p
  have hst : Stb c := by rw [hc]; exact nums_stb _ _
  obtain ⟨ts, hts⟩ : ∃ ts, ts = (sortN q0 l).map nrow := ⟨_, rfl⟩
  have htl : ts.length = es.length := by rw [hts, hl1, List.length_map, sortN_len]
  have htk : ∀ e ∈ ts, e.length = 1 := by
    rw [hts]
    intro e h
    obtain ⟨p, _, rfl⟩ := List.mem_map.1 h
    rfl
  have hfl : dsR (srt c) = ts.flatten.map .e := by
    rw [hts, sortN, ← hc, dsR]
    generalize srt c = x
    induction x with
    | nil => rfl
    | cons a x ih => simp only [List.map_cons, List.flatten_cons, nrow, List.cons_append, List.nil_append, ih]
  obtain ⟨qe, hqe⟩ : ∃ q, q = q0 + es.length := ⟨_, rfl⟩
  rw [← hts, ← hqe]
  cbv
  repeat' first | with_reducible rfl | with_reducible refine And.intro ?_ ?_ | ((with_reducible intro hcc); first | (cases hcc; done) | skip) | ((with_reducible first | show goC _ _ _ _ _ _ _ _ | show goOps _ _ _ _ _ | show goD _ _ _ _ _ _); cbv) | ((with_reducible show okWr _ _ = _); rfl) | ((with_reducible refine hA.alt _ _ (Or.inr ?_)); cbv) | ((with_reducible first | refine hA.fin_pl _ _ _ ?_ | refine hA.len _ _ _ _ _ fun z hz hb => ?_ | refine hA.off _ _ _ _ fun b hb => ?_ | refine hA.rep _ _ _ fun ds m hds hm => ?_ | refine hA.alt _ _ (Or.inl ?_)); cbv) | ((with_reducible first | refine hA.st _ _ _ _ _ ⟨?_, fun ds hds => ?_⟩ | refine hA.sapp _ _ _ ⟨?_, fun sl hsl => ?_⟩); rotate_left; cbv) | (simp only [hA.lits]; cbv)
  all_goals try simp only [hA.ar, inR, n_cast, Int.ofNat_eq_natCast, Option.getD_some, Option.getD_none] at *
  · omega
  · omega
  · refine hA.loopI (fun n s => ∃ (i : Int) (qi : Nat) (dd : List D), 0 ≤ i ∧ n + i = es.length ∧ qi = q0 + i.toNat ∧ dd.length = es.length ∧ (∀ j : Nat, j < i → dd[j]? = (dsR c)[j]?) ∧
        s = ⟨[(11, .int i), (10, .int z), (9, .e (.sl es)), (3, .vec 1 m 1)], [.ids qi, .vec true 1 dd]⟩) es.length _
      (Weak.keep (env' := [(11, .int 0), (10, .int z), (9, .e (.sl es)), (3, .vec 1 m 1)]) ⟨rfl, rfl, rfl, rfl, trivial⟩)
      ⟨0, q0, ds, by omega, by omega, by simp, ?_, fun j hj => by omega, rfl⟩ ?_
    · have : ∀ k : Nat, (List.replicate k [D.e (E.sl [])]).flatten.length = k := fun k => by
        induction k with
        | zero => rfl
        | succ k ih => rw [List.replicate_succ, List.flatten_cons, List.length_append, ih]; simp; omega
      rw [hds, this]
      omega
    rintro n s K ⟨i, qi, ys, h0, h1, hq, h2, h4, rfl⟩ hK
    by_cases hin : (0 : Int) ≤ i ∧ i < es.length
    · obtain ⟨r1, e1, q1⟩ := row_at he hin
      obtain ⟨x1, hx1⟩ : ∃ x, x = r1.map vr := ⟨_, rfl⟩
      have e1 : es.getD i.toNat [] = [E.sl x1] := e1.trans (by rw [hx1])
      obtain ⟨x2, hx2⟩ : ∃ x, x = (clR r1).map vr := ⟨_, rfl⟩
      obtain ⟨qj, hqj⟩ : ∃ q, q = qi + 1 := ⟨_, rfl⟩
      have h79 : Proc Try.prog 53 (fun _ => [.e (.sl x1)]) (fun _ => [.ids qi]) (fun _ => .e (.fs qi x2)) (fun _ => [.ids qj]) := by
        rw [hx2, hqj]
        exact ok53 qi r1 x1 hx1 (by rw [hx1, List.length_map]; exact hr r1 (List.mem_of_getElem? q1))
      have hcr : (dsR c)[i.toNat]? = some (.e (.fs qi x2)) := by rw [dsR, List.getElem?_map, hc, nums_get, List.getElem?_map, q1, hx2, hq]; rfl
      clear hc he hts hfl
      cbv
      repeat' first | with_reducible rfl | with_reducible refine And.intro ?_ ?_ | ((with_reducible intro hcc); first | (cases hcc; done) | skip) | ((with_reducible first | show goC _ _ _ _ _ _ _ _ | show goOps _ _ _ _ _ | show goD _ _ _ _ _ _); cbv) | ((with_reducible show okWr _ _ = _); rfl) | ((with_reducible show A.call _ _ _ _ _ 53 _ _ _); have hc := h79; refine callK_pr hA hP [0] (by rfl) (by exact ⟨rfl, trivial⟩) (Wks.refl _) ?_ (fun _ _ => hc) hc.side; cbv) | ((with_reducible refine hA.row es _ _ ⟨hin, fun row hrow => ?_⟩); rw [e1] at hrow; subst hrow; cbv) | ((with_reducible first | refine hA.fin_pl _ _ _ ?_ | refine hA.len _ _ _ _ _ fun z hz hb => ?_ | refine hA.off _ _ _ _ fun b hb => ?_ | refine hA.rep _ _ _ fun ds m hds hm => ?_ | refine hA.alt _ _ (Or.inl ?_)); cbv) | ((with_reducible first | refine hA.st _ _ _ _ _ ⟨?_, fun ds hds => ?_⟩ | refine hA.sapp _ _ _ ⟨?_, fun sl hsl => ?_⟩); rotate_left; cbv) | (simp only [hA.lits]; cbv)
      all_goals try simp only [hA.ar, inR, n_cast, Int.ofNat_eq_natCast, Option.getD_some, Option.getD_none] at *
      all_goals first
        | (show _ < (m : Int); omega)
        | omega
        | (have hb' : b = i.toNat := by omega
           have hset : ds = ys.set i.toNat (.e (.fs qi x2)) := by rw [hds, hb', List.set_eq_take_append_cons_drop, if_pos (by omega)]; simp
           refine hK _ (n - 1) _ (by omega) (Weak.keep (env' := [(11, .int (i + 1)), (10, .int z), (9, .e (.sl es)), (3, .vec 1 m 1)]) ⟨rfl, rfl, rfl, rfl, trivial⟩)
             ⟨i + 1, qj, _, by omega, by omega, by omega, by rw [hset, List.length_set]; exact h2, fun j hj => ?_, rfl⟩
           rw [hset]
           by_cases hji : (j : Int) < i
           · rw [List.getElem?_set_ne (show i.toNat ≠ j by omega)]; exact h4 j hji
           · have : j = i.toNat := by omega
             subst this
             rw [List.getElem?_set_self (show i.toNat < ys.length by omega), hcr])
        | (clear hK h4; simp at *; omega)
        | (trace_state; fail)
    · have hxe : ys = dsR c := by
        refine List.ext_getElem? fun j => ?_
        by_cases hj : (j : Int) < i
        · exact h4 j hj
        · rw [List.getElem?_eq_none (by omega), List.getElem?_eq_none (by rw [dsR_len]; omega)]
      obtain ⟨dsF, hdsF⟩ : ∃ ds, ds = dsR (srt c) := ⟨_, rfl⟩
      obtain ⟨b0, hb0⟩ : ∃ b, b = decide (0 < m) := ⟨_, rfl⟩
      have h80 : Proc Try.prog 54 (fun t => [.vec (t 0) m 1, cmpD]) (fun _ => [.vec true 1 ys]) (fun t => .vec (t 1) m 1) (fun _ => [.vec true 1 ys, .vec b0 1 dsF]) := by
        have := ok54 c hcc0 hst (by omega)
        rw [NewR, srt_len, show c.length = m by omega, ← hxe, ← hdsF, ← hb0] at this
        exact this
      have hdf : dsF.take (m * 1) = ts.flatten.map .e := by
        rw [← hfl, hdsF]
        exact List.take_of_length_le (by rw [dsR_len, srt_len]; omega)
      have hqq : qi = qe := by omega
      subst hqq
      clear hK h4 he hts hfl hc
      cbv
      repeat' first | with_reducible rfl | with_reducible refine And.intro ?_ ?_ | ((with_reducible intro hcc); first | (cases hcc; done) | skip) | ((with_reducible first | show goC _ _ _ _ _ _ _ _ | show goOps _ _ _ _ _ | show goD _ _ _ _ _ _); cbv) | ((with_reducible show okWr _ _ = _); rfl) | (exfalso; simp only [hA.lt, hA.sub, decide_eq_true_eq, decide_eq_false_iff_not, n_cast] at *; omega) | ((with_reducible show A.call _ _ _ _ _ 54 _ _ _); have hc := h80; refine callK_pr hA hP [1] (by rfl) (by exact ⟨rfl, trivial⟩) (Wks.refl _) ?_ (fun _ _ => hc) hc.side; cbv) | ((with_reducible refine hA.finv _ _ _ _ _ (finv_vecFs (t := 0) (b := b0) (ds := dsF) (es := ts) ?_ ?_ ?_ ?_ htk))) | ((with_reducible first | refine hA.fin_pl _ _ _ ?_ | refine hA.len _ _ _ _ _ fun z hz hb => ?_ | refine hA.off _ _ _ _ fun b hb => ?_ | refine hA.rep _ _ _ fun ds m hds hm => ?_ | refine hA.alt _ _ (Or.inl ?_)); cbv) | ((with_reducible first | refine hA.st _ _ _ _ _ ⟨?_, fun ds hds => ?_⟩ | refine hA.sapp _ _ _ ⟨?_, fun sl hsl => ?_⟩); rotate_left; cbv) | (simp only [hA.lits]; cbv)
      all_goals try simp only [hA.ar, inR, n_cast, Int.ofNat_eq_natCast, Option.getD_some, Option.getD_none] at *
      all_goals first
        | exact hdf
        | rfl
        | omega
        | (trace_state; fail))
end Go.Proofs.Ytfplalbognalkaa.Ab.NS
/- Rows copied by the law, with numbers. -/
namespace Go.Proofs.Ytfplalbognalkaa.Ab.NS
open Go
/-- The rows, each with its number. -/
def rowsN (q : Nat) (l : List Ab.Row) : List (List E) := (nums q l).map nrow
set_option maxRecDepth 100000 in
theorem ok58 (q0 : Nat) (l : List (Bool × Int)) (es : List (List E)) (he : es = l.map vr) (hlen : es.length ≤ 1048576) : Proc Try.prog 58 (fun _ => [.e (.sl es)]) (fun _ => [.ids q0]) (fun _ => .e (.fs q0 es)) (fun _ => [.ids (q0 + 1)]) := procOf mixed p58 (tok_side (es := [.sl es])) fun A P hA hP => (by
  have hl1 : es.length = l.length := by rw [he]; simp
  have hes : ∀ e ∈ es, e.length = 2 := by
    rw [he]
    intro e h
    obtain ⟨p, _, rfl⟩ := List.mem_map.1 h
    rfl
  cbv
  repeat' first | with_reducible rfl | with_reducible refine And.intro ?_ ?_ | ((with_reducible intro hcc); first | (cases hcc; done) | skip) | ((with_reducible first | show goC _ _ _ _ _ _ _ _ | show goOps _ _ _ _ _ | show goD _ _ _ _ _ _); cbv) | ((with_reducible show okWr _ _ = _); rfl) | ((with_reducible first | refine callK_f hA hP (ok110 _ _) ?_ ?_ ?_); exact rfl; exact rfl; cbv) | ((with_reducible first | refine hA.fin_pl _ _ _ ?_ | refine hA.len _ _ _ _ _ fun z hz hb => ?_ | refine hA.off _ _ _ _ fun b hb => ?_ | refine hA.rep _ _ _ fun ds m hds hm => ?_ | refine hA.alt _ _ (Or.inl ?_)); cbv) | ((with_reducible first | refine hA.st _ _ _ _ _ ⟨?_, fun ds hds => ?_⟩ | refine hA.sapp _ _ _ ⟨?_, fun sl hsl => ?_⟩); rotate_left; cbv) | (simp only [hA.lits]; cbv)
  all_goals try simp only [hA.ar, inR, n_cast, Int.ofNat_eq_natCast, Option.getD_some, Option.getD_none] at *
  · omega
  · omega
  · refine hA.loopI (fun n s => ∃ (i : Int) (xs : List (List E)), 0 ≤ i ∧ n + i = es.length ∧ xs.length = es.length ∧ (∀ e ∈ xs, e.length = 2) ∧ (∀ j : Nat, j < i → xs[j]? = es[j]?) ∧
        s = ⟨[(4, .int i), (3, .bs 1 0 m 2), (2, .zs), (0, .e (.sl es))], [.ids q0, .box (xs.flatten.map .e)]⟩) es.length _
      (Weak.keep (env' := [(4, .int 0), (3, .bs 1 0 m 2), (2, .zs), (0, .e (.sl es))]) ⟨rfl, rfl, rfl, rfl, trivial⟩)
      ⟨0, List.replicate m [E.bool false, E.int 0], by omega, by omega, by simp; omega, by simp, fun j hj => by omega, by rw [← buf_zero, hm]; rw [hds]; rfl⟩ ?_
    rintro n s K ⟨i, xs, h0, h1, h2, h3, h4, rfl⟩ hK
    obtain ⟨ys, hys⟩ : ∃ ys, ys = xs.flatten.map D.e := ⟨_, rfl⟩
    rw [← hys]
    cbv
    repeat' first | with_reducible rfl | with_reducible refine And.intro ?_ ?_ | ((with_reducible intro hcc); first | (cases hcc; done) | skip) | ((with_reducible first | show goC _ _ _ _ _ _ _ _ | show goOps _ _ _ _ _ | show goD _ _ _ _ _ _); cbv) | ((with_reducible show okWr _ _ = _); rfl) | ((with_reducible first | refine callK_f hA hP (ok110 _ _) ?_ ?_ ?_); exact rfl; exact rfl; cbv) | ((with_reducible refine hA.finv _ _ _ _ _ (finv_bsFs (t := 0) (es := es) rfl ?_ ?_ hes))) | ((with_reducible refine hA.row es _ _ ?_); have hin : (0 : Int) ≤ i ∧ i < es.length := (by simp only [hA.lt, decide_eq_true_eq, n_cast] at *; omega); obtain ⟨⟨b1, v1⟩, e1, q1⟩ := row_val he hin; refine ⟨hin, fun row hrow => ?_⟩; rw [e1] at hrow; subst hrow; cbv) | ((with_reducible first | refine hA.fin_pl _ _ _ ?_ | refine hA.len _ _ _ _ _ fun z hz hb => ?_ | refine hA.off _ _ _ _ fun b hb => ?_ | refine hA.rep _ _ _ fun ds m hds hm => ?_ | refine hA.alt _ _ (Or.inl ?_)); cbv) | ((with_reducible first | refine hA.st _ _ _ _ _ ⟨?_, fun ds hds => ?_⟩ | refine hA.sapp _ _ _ ⟨?_, fun sl hsl => ?_⟩); rotate_left; cbv) | (simp only [hA.lits]; cbv)
    all_goals try simp only [hA.ar, inR, n_cast, Int.ofNat_eq_natCast, Option.getD_some, Option.getD_none] at *
    · exact h0
    · show i < (m : Int)
      omega
    · omega
    · have hb' : b = i.toNat * 2 := by omega
      have hrow : es[i.toNat]? = some [E.bool b1, E.int v1] := by
        have : i.toNat < es.length := by omega
        rw [← e1]; simp [List.getD, this]
      refine hK _ (n - 1) _ (by omega) (Weak.keep (env' := [(4, .int (i + 1)), (3, .bs 1 0 m 2), (2, .zs), (0, .e (.sl es))]) ⟨rfl, rfl, rfl, rfl, trivial⟩)
        ⟨i + 1, xs.set i.toNat [E.bool b1, E.int v1], by omega, by omega, by simp [h2], ?_, fun j hj => ?_, ?_⟩
      · intro e h
        rcases List.mem_or_eq_of_mem_set h with h | rfl
        · exact h3 e h
        · rfl
      · by_cases hji : (j : Int) < i
        · rw [List.getElem?_set_ne (show i.toNat ≠ j by omega)]; exact h4 j hji
        · have : j = i.toNat := by omega
          subst this
          rw [List.getElem?_set_self (show i.toNat < xs.length by omega), hrow]
      · congr 3
        rw [hds, hys, hb']
        congr 1
        exact buf_set (k := 2) (by omega) h3 (i := i.toNat) (show i.toNat < xs.length by omega) (r := [E.bool b1, E.int v1]) rfl
    · have : ys.length = xs.length * 2 := by rw [hys, List.length_map, flatten_len h3]
      omega
    · have hxe : xs = es := by
        refine List.ext_getElem? fun j => ?_
        by_cases hj : (j : Int) < i
        · exact h4 j hj
        · rw [List.getElem?_eq_none (by grind), List.getElem?_eq_none (by grind)]
      rw [hys, hxe]; rfl
    · omega)
set_option maxRecDepth 100000 in
set_option maxHeartbeats 1000000 in
theorem ok18 (q0 : Nat) (l : List (List (Bool × Int))) (es : List (List E)) (he : es = l.map rsr) (hlen : es.length ≤ 1048576) (hb2 : ∀ r ∈ l, r.length ≤ 1048576) :
    Proc Try.prog 18 (fun _ => [.e (.sl es)]) (fun _ => [.ids q0]) (fun _ => .e (.fs (q0 + es.length) (rowsN q0 l))) (fun _ => [.ids (q0 + es.length + 1)]) := procOf mixed p18 (tok_side (es := [.sl es])) fun A P hA hP => (by
  obtain ⟨ts, hts⟩ : ∃ ts, ts = rowsN q0 l := ⟨_, rfl⟩
  have htl : ts.length = es.length := by rw [hts, he, rowsN, List.length_map, nums_len, List.length_map]
  have htk : ∀ e ∈ ts, e.length = 1 := by
    rw [hts]
    intro e h
    obtain ⟨p, _, rfl⟩ := List.mem_map.1 h
    rfl
  obtain ⟨qe, hqe⟩ : ∃ q, q = q0 + es.length := ⟨_, rfl⟩
  rw [← hts, ← hqe]
  have hl1 : es.length = l.length := by rw [he]; simp
  have hes : ∀ e ∈ es, e.length = 1 := by
    rw [he]
    intro e h
    obtain ⟨p, _, rfl⟩ := List.mem_map.1 h
    rfl
  cbv
  repeat' first | with_reducible rfl | with_reducible refine And.intro ?_ ?_ | ((with_reducible intro hcc); first | (cases hcc; done) | skip) | ((with_reducible first | show goC _ _ _ _ _ _ _ _ | show goOps _ _ _ _ _ | show goD _ _ _ _ _ _); cbv) | ((with_reducible show okWr _ _ = _); rfl) | ((with_reducible first | refine hA.fin_pl _ _ _ ?_ | refine hA.len _ _ _ _ _ fun z hz hb => ?_ | refine hA.off _ _ _ _ fun b hb => ?_ | refine hA.rep _ _ _ fun ds m hds hm => ?_ | refine hA.alt _ _ (Or.inl ?_)); cbv) | ((with_reducible first | refine hA.st _ _ _ _ _ ⟨?_, fun ds hds => ?_⟩ | refine hA.sapp _ _ _ ⟨?_, fun sl hsl => ?_⟩); rotate_left; cbv) | (simp only [hA.lits]; cbv)
  all_goals try simp only [hA.ar, inR, n_cast, Int.ofNat_eq_natCast, Option.getD_some, Option.getD_none] at *
  · omega
  · omega
  · refine hA.loopI (fun n s => ∃ (i : Int) (qi : Nat) (xs : List (List E)), 0 ≤ i ∧ n + i = es.length ∧ qi = q0 + i.toNat ∧ xs.length = es.length ∧ (∀ e ∈ xs, e.length = 1) ∧ (∀ j : Nat, j < i → xs[j]? = ts[j]?) ∧
        s = ⟨[(4, .int i), (3, .bs 1 0 m 1), (2, .zs), (0, .e (.sl es))], [.ids qi, .box (xs.flatten.map .e)]⟩) es.length _
      (Weak.keep (env' := [(4, .int 0), (3, .bs 1 0 m 1), (2, .zs), (0, .e (.sl es))]) ⟨rfl, rfl, rfl, rfl, trivial⟩)
      ⟨0, q0, List.replicate m [E.sl []], by omega, by omega, by simp, by simp; omega, by simp, fun j hj => by omega, by rw [← buf_zero, hm]; rw [hds]; rfl⟩ ?_
    rintro n s K ⟨i, qi, xs, h0, h1, hq, h2, h3, h4, rfl⟩ hK
    obtain ⟨ys, hys⟩ : ∃ ys, ys = xs.flatten.map D.e := ⟨_, rfl⟩
    have hyl : ys.length = xs.length * 1 := by rw [hys, List.length_map, flatten_len h3]
    rw [← hys]
    by_cases hin : (0 : Int) ≤ i ∧ i < es.length
    · obtain ⟨r1, e1, q1⟩ := row_at he hin
      obtain ⟨x1, hx1⟩ : ∃ x, x = r1.map vr := ⟨_, rfl⟩
      have e1 : es.getD i.toNat [] = [E.sl x1] := e1.trans (by rw [hx1])
      obtain ⟨qj, hqj⟩ : ∃ q, q = qi + 1 := ⟨_, rfl⟩
      have hc : Proc Try.prog 58 (fun _ => [.e (.sl x1)]) (fun _ => [.ids qi]) (fun _ => .e (.fs qi x1)) (fun _ => [.ids qj]) := by
        rw [hqj]
        exact ok58 qi r1 x1 hx1 (by have := hb2 r1 (List.mem_of_getElem? q1); rw [hx1, List.length_map]; omega)
      have hrow0 : ts[i.toNat]? = some [.fs qi x1] := by rw [hts, rowsN, List.getElem?_map, nums_get, q1, hx1, hq]; rfl
      clear hts
      cbv
      repeat' first | with_reducible rfl | with_reducible refine And.intro ?_ ?_ | ((with_reducible intro hcc); first | (cases hcc; done) | skip) | ((with_reducible first | show goC _ _ _ _ _ _ _ _ | show goOps _ _ _ _ _ | show goD _ _ _ _ _ _); cbv) | ((with_reducible show okWr _ _ = _); rfl) | ((with_reducible show A.call _ _ _ _ _ 58 _ _ _); have hc := hc; refine callK_pr hA hP [0] (by rfl) (by exact ⟨rfl, trivial⟩) (Wks.refl _) ?_ (fun _ _ => hc) hc.side; cbv) | ((with_reducible refine hA.row es _ _ ⟨hin, fun row hrow => ?_⟩); rw [e1] at hrow; subst hrow; cbv) | ((with_reducible first | refine hA.fin_pl _ _ _ ?_ | refine hA.len _ _ _ _ _ fun z hz hb => ?_ | refine hA.off _ _ _ _ fun b hb => ?_ | refine hA.rep _ _ _ fun ds m hds hm => ?_ | refine hA.alt _ _ (Or.inl ?_)); cbv) | ((with_reducible first | refine hA.st _ _ _ _ _ ⟨?_, fun ds hds => ?_⟩ | refine hA.sapp _ _ _ ⟨?_, fun sl hsl => ?_⟩); rotate_left; cbv) | (simp only [hA.lits]; cbv)
      all_goals try simp only [hA.ar, inR, n_cast, Int.ofNat_eq_natCast, Option.getD_some, Option.getD_none] at *
      all_goals first
        | (show _ < (m : Int); omega)
        | omega
        | (clear hK h4 he; grind; done)
        | (have hb' : b = i.toNat * 1 := by omega
           refine hK _ (n - 1) _ (by omega) (Weak.keep (env' := [(4, .int (i + 1)), (3, .bs 1 0 m 1), (2, .zs), (0, .e (.sl es))]) ⟨rfl, rfl, rfl, rfl, trivial⟩)
             ⟨i + 1, qj, xs.set i.toNat [.fs qi x1], by omega, by omega, by omega, by simp [h2], fun e h => ?_, fun j hj => ?_, ?_⟩
           · rcases List.mem_or_eq_of_mem_set h with h | rfl
             · exact h3 e h
             · rfl
           · by_cases hji : (j : Int) < i
             · rw [List.getElem?_set_ne (show i.toNat ≠ j by omega)]; exact h4 j hji
             · have : j = i.toNat := by omega
               subst this
               rw [List.getElem?_set_self (show i.toNat < xs.length by omega), hrow0]
           · congr 3
             rw [hds, hys, hb']
             congr 1
             exact buf_set (k := 1) (by omega) h3 (i := i.toNat) (show i.toNat < xs.length by omega) (r := [.fs qi x1]) rfl)
    · have hxe : xs = ts := by
        refine List.ext_getElem? fun j => ?_
        by_cases hj : (j : Int) < i
        · exact h4 j hj
        · rw [List.getElem?_eq_none (by omega), List.getElem?_eq_none (by omega)]
      have hqq : qi = qe := by omega
      subst hqq
      cbv
      repeat' first | with_reducible rfl | with_reducible refine And.intro ?_ ?_ | ((with_reducible intro hcc); first | (cases hcc; done) | skip) | ((with_reducible first | show goC _ _ _ _ _ _ _ _ | show goOps _ _ _ _ _ | show goD _ _ _ _ _ _); cbv) | ((with_reducible show okWr _ _ = _); rfl) | (exfalso; simp only [hA.lt, hA.sub, decide_eq_true_eq, decide_eq_false_iff_not, n_cast] at *; omega) | ((with_reducible refine hA.finv _ _ _ _ _ (finv_bsFs (t := 0) (es := ts) rfl ?_ ?_ htk))) | ((with_reducible first | refine hA.fin_pl _ _ _ ?_ | refine hA.len _ _ _ _ _ fun z hz hb => ?_ | refine hA.off _ _ _ _ fun b hb => ?_ | refine hA.rep _ _ _ fun ds m hds hm => ?_ | refine hA.alt _ _ (Or.inl ?_)); cbv) | ((with_reducible first | refine hA.st _ _ _ _ _ ⟨?_, fun ds hds => ?_⟩ | refine hA.sapp _ _ _ ⟨?_, fun sl hsl => ?_⟩); rotate_left; cbv) | (simp only [hA.lits]; cbv)
      all_goals try simp only [hA.ar, inR, n_cast, Int.ofNat_eq_natCast, Option.getD_some, Option.getD_none] at *
      all_goals first
        | (rw [hys, hxe]; rfl)
        | omega
        | (clear hK h4 he; grind; done)
        | (trace_state; fail))
end Go.Proofs.Ytfplalbognalkaa.Ab.NS
/- Trees in memory that only their holder knows: each slice has a block of its own. -/
namespace Go.Proofs.Ytfplalbognalkaa.Ab
open Go
/-- A value whose slices lie in the blocks told, one block each. -/
inductive TreeAt (w : World) : Value → List Nat → E → Prop
  | v {x} (h : okV x = true) : TreeAt w x [] (.v x)
  | nil {a : Option Addr} {cap i : Nat} (h : a = none → cap = 0) : TreeAt w (.slice a 0 cap) [] (.fs i [])
  | fs {b n cap k i : Nat} {es : List (List E)} {cs : Array Value} {T : TypeId} (bss : List (List Nat)) (hn : es.length = n) (hc : n ≤ cap) (hm : n ≤ maxN) (hk : ∀ e ∈ es, e.length = k)
      (hb : w.heap[b]? = some (.cells cs T (0, 0))) (hsz : cap * k ≤ cs.size) (hl : bss.length = n * k)
      (hr : ∀ (j : Nat) d, es.flatten[j]? = some d → TreeAt w (cs.getD j undef) (bss.getD j []) d) : TreeAt w (.slice (some ⟨b, 0, none⟩) n cap) (b :: bss.flatten) (.fs i es)
theorem TreeAt.cell {w v bs e} (h : TreeAt w v bs e) : v.oneCell' = true := by
  cases h <;> first | exact okV.cell (by assumption) | rfl
theorem mem_getD_flatten {bss : List (List Nat)} {j b : Nat} (h : b ∈ bss.getD j []) : b ∈ bss.flatten := by
  rcases Nat.lt_or_ge j bss.length with q | q
  · rw [List.getD, List.getElem?_eq_getElem q] at h
    exact List.mem_flatten.2 ⟨_, List.getElem_mem q, h⟩
  · rw [List.getD, List.getElem?_eq_none q] at h
    cases h
/-- It holds as long as its blocks stand. -/
theorem TreeAt.frame {w w' : World} {v : Value} {bs : List Nat} {e : E} (h : TreeAt w v bs e) : (∀ b ∈ bs, w'.heap[b]? = w.heap[b]?) → TreeAt w' v bs e := by
  induction h with
  | v h => exact fun _ => .v h
  | nil h => exact fun _ => .nil h
  | fs bss hn hc hm hk hb hsz hl hr ih =>
    intro hw
    exact .fs bss hn hc hm hk (by rw [hw _ (by simp)]; exact hb) hsz hl fun j d hd => ih j d hd fun b hb => hw b (by simp only [List.mem_cons]; exact .inr (mem_getD_flatten hb))
/-- It may be read as a plain value. -/
theorem TreeAt.rvE {w : World} {v : Value} {bs : List Nat} {e : E} (h : TreeAt w v bs e) {G : Gh} : (∀ b ∈ bs, ∀ o, G.pub b o) → RvE w G v e.un := by
  induction h with
  | v h => exact fun _ => .v h
  | nil h => exact fun _ => .nils h
  | @fs b n cap k i es cs T bss hn hc hm hk hb hsz hl hr ih =>
    intro hp
    have hfl : es.flatten.length = n * k := by rw [flatten_len hk, hn]
    refine .sl (k := k) (fun j => cs.getD j undef) (by rw [unss_map, List.length_map]; exact hn) hc hm (fun e he => ?_) (fun j hj => ⟨hp b (by simp) _, ?_⟩) fun j d hd => ?_
    · rw [unss_map] at he
      obtain ⟨e0, h0, rfl⟩ := List.mem_map.1 he
      rw [List.length_map]; exact hk _ h0
    · have hjc : j < cs.size := Nat.lt_of_lt_of_le hj (Nat.le_trans (Nat.mul_le_mul_right k hc) hsz)
      rw [Nat.zero_add]
      simp [World.cell?, hb, hjc, Array.getD]
    · rw [unss_flat, List.getElem?_map] at hd
      obtain ⟨d0, h0, rfl⟩ := Option.map_eq_some_iff.1 hd
      exact ih j d0 h0 fun b' hb' o => hp b' (by simp only [List.mem_cons]; exact .inr (mem_getD_flatten hb')) o
mutual
/-- The numbers in it; none: not all of its slices have one. -/
def E.nums : E → Option (List Nat)
  | .v _ => some []
  | .fs _ [] => some []
  | .fs i es => (numss es).map fun l => i :: l
  | _ => none
def numsr : List E → Option (List Nat)
  | [] => some []
  | e :: r => match e.nums, numsr r with
    | some a, some b => some (a ++ b)
    | _, _ => none
def numss : List (List E) → Option (List Nat)
  | [] => some []
  | e :: r => match numsr e, numss r with
    | some a, some b => some (a ++ b)
    | _, _ => none
end
theorem numss_flat : ∀ es : List (List E), ∀ ns, numss es = some ns → numsr es.flatten = some ns
  | [], ns, h => h
  | e :: r, ns, h => by
    have app : ∀ (a b : List E) (x y : List Nat), numsr a = some x → numsr b = some y → numsr (a ++ b) = some (x ++ y) := by
      intro a
      induction a with
      | nil => intro b x y h1 h2; simp only [numsr, Option.some.injEq] at h1; subst h1; exact h2
      | cons c a ih =>
        intro b x y h1 h2
        simp only [numsr] at h1
        split at h1
        · rename_i p q e1 e2
          cases h1
          simp only [List.cons_append, numsr, e1, ih b q y e2 h2, List.append_assoc]
        · cases h1
    simp only [numss] at h
    split at h
    · rename_i a b e1 e2
      cases h
      exact app _ _ _ _ e1 (numss_flat r b e2)
    · cases h
/-- The blocks of the numbers. -/
def Blks (G : Gh) : List Nat → List Nat → Prop
  | [], [] => True
  | j :: ns, b :: bs => (∃ z, G.sg j = some (b, z)) ∧ Blks G ns bs
  | _, _ => False
theorem Blks.app {G : Gh} : ∀ {n1 b1 n2 b2 : List Nat}, Blks G n1 b1 → Blks G n2 b2 → Blks G (n1 ++ n2) (b1 ++ b2)
  | [], [], _, _, _, h => h
  | _ :: _, _ :: _, _, _, h1, h2 => ⟨h1.1, Blks.app h1.2 h2⟩
  | [], _ :: _, _, _, h, _ => h.elim
  | _ :: _, [], _, _, h, _ => h.elim
theorem Blks.mem {G : Gh} : ∀ {ns bs : List Nat} {b : Nat}, Blks G ns bs → b ∈ bs → ∃ j ∈ ns, ∃ z, G.sg j = some (b, z)
  | _ :: _, _ :: _, b, h, hb => by
    rcases List.mem_cons.1 hb with rfl | hb
    · exact ⟨_, List.mem_cons_self, h.1⟩
    · obtain ⟨j, h1, h2⟩ := Blks.mem h.2 hb
      exact ⟨j, List.mem_cons_of_mem _ h1, h2⟩
  | [], [], _, _, hb => by cases hb
  | [], _ :: _, _, h, _ => h.elim
theorem Blks.nodup {G : Gh} (hi : ∀ i j b c, G.sg i = some b → G.sg j = some c → b.1 = c.1 → i = j) : ∀ {ns bs : List Nat}, Blks G ns bs → ns.Nodup → bs.Nodup
  | [], [], _, _ => List.nodup_nil
  | j :: ns, b :: bs, h, hn => by
    obtain ⟨h1, h2⟩ := List.nodup_cons.1 hn
    refine List.nodup_cons.2 ⟨fun hb => ?_, Blks.nodup hi h.2 h2⟩
    obtain ⟨j', m1, z', e'⟩ := h.2.mem hb
    obtain ⟨z, e⟩ := h.1
    have := hi _ _ _ _ e e' rfl
    subst this
    exact h1 m1
  | [], _ :: _, h, _ => h.elim
  | _ :: _, [], h, _ => h.elim
theorem trees_of {w : World} {G : Gh} : ∀ (l : List E) (u : Nat → Value) (ns : List Nat), (∀ (j : Nat) d, l[j]? = some d → ∀ ns, d.nums = some ns → ∃ bs, TreeAt w (u j) bs d ∧ Blks G ns bs) → numsr l = some ns →
    ∃ bss : List (List Nat), bss.length = l.length ∧ (∀ (j : Nat) d, l[j]? = some d → TreeAt w (u j) (bss.getD j []) d) ∧ Blks G ns bss.flatten
  | [], _, ns, _, hn => by
    simp only [numsr, Option.some.injEq] at hn
    subst hn
    exact ⟨[], rfl, fun j d h => by simp at h, trivial⟩
  | e :: l, u, ns, h, hn => by
    simp only [numsr] at hn
    split at hn
    · rename_i a b e1 e2
      cases hn
      obtain ⟨bs, t1, t2⟩ := h 0 e rfl a e1
      obtain ⟨bss, q1, q2, q3⟩ := trees_of l (fun j => u (j + 1)) b (fun j d hd => h (j + 1) d (by simpa using hd)) e2
      refine ⟨bs :: bss, by simp [q1], fun j d hd => ?_, by rw [List.flatten_cons]; exact t2.app q3⟩
      cases j with
      | zero => simp at hd; subst hd; exact t1
      | succ j => exact q2 j d (by simpa using hd)
    · cases hn
/-- A value all of whose slices have numbers is a tree. -/
theorem RvE.tree {w : World} {G : Gh} (hs : ∀ j b, G.sg j = some b → ∃ cs T, w.heap[b.1]? = some (.cells cs T (0, 0)) ∧ b.2 ≤ cs.size) {v : Value} {e : E} (r : RvE w G v e) : ∀ ns, e.nums = some ns → ∃ bs, TreeAt w v bs e ∧ Blks G ns bs := by
  induction r with
  | v h => intro ns hn; simp only [E.nums, Option.some.injEq] at hn; subst hn; exact ⟨[], .v h, trivial⟩
  | nils h => intro ns hn; simp [E.nums] at hn
  | sl => intro ns hn; simp [E.nums] at hn
  | iv => intro ns hn; simp [E.nums] at hn
  | ia => intro ns hn; simp [E.nums] at hn
  | fnils h => intro ns hn; simp only [E.nums, Option.some.injEq] at hn; subst hn; exact ⟨[], .nil h, trivial⟩
  | @fs i b n cap k es z u hg hz hn hc hm hk hp hr ih =>
    intro ns hns
    by_cases he : es = []
    · subst he
      simp only [E.nums, Option.some.injEq] at hns
      subst hns
      subst hn
      exact ⟨[], .nil fun h => (by cases h), trivial⟩
    · have hns' : ∃ l, numss es = some l ∧ ns = i :: l := by
        cases es with
        | nil => exact absurd rfl he
        | cons a es =>
          simp only [E.nums, Option.map_eq_some_iff] at hns
          obtain ⟨l, h1, h2⟩ := hns
          exact ⟨l, h1, h2.symm⟩
      obtain ⟨l, hl, rfl⟩ := hns'
      obtain ⟨cs, T, hcs, hsz⟩ := hs i _ hg
      have hfl : es.flatten.length = n * k := by rw [flatten_len hk, hn]
      obtain ⟨bss, q1, q2, q3⟩ := trees_of es.flatten u l ih (numss_flat es l hl)
      refine ⟨b :: bss.flatten, .fs (T := T) bss hn hc hm hk hcs (Nat.le_trans hz hsz) (q1.trans hfl) fun j d hd => ?_, ⟨z, hg⟩, q3⟩
      have hj : j < n * k := by rw [← hfl]; exact (List.getElem?_eq_some_iff.1 hd).1
      have hc2 := (hp j hj).2
      have hjc : j < cs.size := Nat.lt_of_lt_of_le hj (Nat.le_trans (Nat.mul_le_mul_right k hc) (Nat.le_trans hz hsz))
      rw [Nat.zero_add] at hc2
      simp only [World.cell?, hcs] at hc2
      have hu : cs.getD j undef = u j := by
        simp only [Array.getD, hjc, dite_true]
        simpa [hjc] using hc2
      rw [hu]
      exact q2 j d hd
end Go.Proofs.Ytfplalbognalkaa.Ab
/- Calls whose answer is a tree that only the caller knows. -/
namespace Go.Proofs.Ytfplalbognalkaa.Ab
open Go
/-- The caller's ghost with one more thing that only calls look into. -/
def Gh.more (G : Gh) (f : Nat) (v : Value) (bs : List Nat) : Gh := ⟨G.pub, G.blk, G.sg, fun i => if i = f then v else G.rv i, fun i => if i = f then bs else G.rb i⟩
/-- Behind a call that left all of memory bz it was and made a thing anew. -/
theorem frame_new {w w' : World} {G : Gh} {h h' : Hp} {f : Nat} {v : Value} {bs : List Nat} {R : World → Value → List Nat → Prop} (hi : Inv w G h) (hf : h f = .dead) (h1 : h' f = .res R) (h2 : ∀ j, j ≠ f → h' j = h j)
    (os : w'.os = w.os) (tape : w'.tape = w.tape) (output : w'.output = w.output) (size : w.heap.size ≤ w'.heap.size) (row : ∀ b, b < w.heap.size → w'.heap[b]? = w.heap[b]?)
    (hbs : ∀ b ∈ bs, w.heap.size ≤ b ∧ b < w'.heap.size) (hR : ∀ w2 : World, (∀ b ∈ bs, w2.heap[b]? = w'.heap[b]?) → R w2 v bs) :
    Inv w' (G.more f v bs) h' ∧ Ext w G h w' (G.more f v bs) h' := by
  have hne : ∀ j, (h' j).has = true → j ≠ f ∧ (h j).has = true := fun j hj => by
    have q : j ≠ f := fun q => by rw [q, h1] at hj; cases hj
    exact ⟨q, by rw [← h2 j q]; exact hj⟩
  have nd : ∀ {j o}, h j = o → o ≠ .dead → h' j = o := fun {j o} e q => by
    rw [h2 j (fun q2 => q (by rw [← e, q2, hf]))]; exact e
  have back : ∀ {j o}, h' j = o → (∀ R, o ≠ .res R) → h j = o := fun {j o} e q => by
    rw [← h2 j (fun q2 => q R (by rw [← e, q2, h1]))]; exact e
  have ext : Ext w G h w' (G.more f v bs) h' := {
    os := os
    tape := tape
    output := output
    size := size
    sgm := fun _ _ e => e
    idm := fun j m e => ⟨m, nd e (by simp)⟩
    rvm := fun j R e => ⟨⟨R, nd e (by simp)⟩, if_neg (fun q => by rw [q, hf] at e; cases e)⟩
    rbnew := fun j R' e b hb => by
      simp only [Gh.more] at hb
      split at hb
      · exact .inr (hbs b hb).1
      · rename_i q
        exact .inl ⟨j, R', by rw [← h2 j q]; exact e, hb⟩
    idn := fun j m e => ⟨j, m, back e (by simp)⟩
    sgn := fun _ => rfl
    sgw := fun _ _ e => .inl e
    pub := fun b o p => ⟨p, by simp only [World.cell?]; rw [row b (hi.publt b o p)]⟩
    box := fun i ds e => ⟨⟨ds, nd e (by simp), rfl⟩, rfl⟩
    tok := fun i n k e => ⟨n, nd e (by simp), Nat.le_refl _, fun _ hn => ⟨rfl, by simp only [World.shape?]; rw [row _ (hi.lt i (by rw [e]; simp [O.has, hn]))]⟩⟩
    others := fun b hb _ _ => row b hb
    new := fun i hi => .inl ⟨i, (hne i hi).2, rfl⟩
    vec := fun i b k ds e => .inr ⟨ds, nd e (by simp), Nat.le_refl _, fun hb => ⟨rfl, by simp only [World.shape?]; rw [row _ (hi.lt i (by rw [e]; exact hb))]⟩⟩
    gone := fun _ e => nd e (by simp)
    smap := fun _ l e => ⟨⟨l, nd e (by simp)⟩, rfl⟩
    pubnew := fun b o p => .inl p }
  refine ⟨⟨fun i hh => Nat.lt_of_lt_of_le (hi.lt i (hne i hh).2) size, fun i j a c e => hi.inj i j (hne i a).2 (hne j c).2 e, fun b o p => Nat.lt_of_lt_of_le (hi.publt b o p) size, fun i ds e => ?_, fun i n k e hn => ?_, fun i b k ds e => ?_, fun i l e => ?_,
    ⟨fun j b e => ?_, hi.x.sgi, fun i m e => hi.x.ids i m (back e (by simp)), fun i j m m' a c => hi.x.idu i j m m' (back a (by simp)) (back c (by simp)), fun i R' e => ?_⟩⟩, ext⟩
  · obtain ⟨a1, cs, T, a2, a3, a4⟩ := hi.box i ds (back e (by simp))
    exact ⟨a1, cs, T, by rw [← a2]; exact row _ (hi.lt i (hne i (by rw [e]; rfl)).2), a3, fun j c d hc hd => ⟨(a4 j c d hc hd).1.ext ext, (a4 j c d hc hd).2⟩⟩
  · obtain ⟨⟨cs, T, a1⟩, a2⟩ := hi.front i n k (back e (by simp)) hn
    exact ⟨⟨cs, T, by rw [← a1]; exact row _ (hi.lt i (hne i (by rw [e]; simp [O.has, hn])).2)⟩, a2⟩
  · obtain ⟨a0, a⟩ := hi.vec i b k ds (back e (by simp))
    refine ⟨a0, fun hb => ?_⟩
    obtain ⟨a1, cs, T, a2, a3, a4⟩ := a hb
    exact ⟨a1, cs, T, by rw [← a2]; exact row _ (hi.lt i (hne i (by rw [e]; exact hb)).2), a3, fun j c d hc hd => ⟨(a4 j c d hc hd).1.ext ext, (a4 j c d hc hd).2⟩⟩
  · obtain ⟨a1, es, ck, a2, a3, a4⟩ := hi.smap i l (back e (by simp))
    exact ⟨a1, es, ck, by rw [← a2]; exact row _ (hi.lt i (hne i (by rw [e]; rfl)).2), a3, fun j e p a b => ⟨(a4 j e p a b).1, RvE.mono (G' := G.more f v bs) ext.pub ext.sgm (a4 j e p a b).2⟩⟩
  · obtain ⟨a, c, d⟩ := hi.x.sgs j b e
    exact ⟨Nat.lt_of_lt_of_le a size, fun i hh => c i (hne i hh).2, by rw [row _ a]; exact d⟩
  · by_cases q : i = f
    · subst q
      rw [h1] at e
      cases e
      show (∀ w2 : World, (∀ b ∈ (if i = i then bs else G.rb i), w2.heap[b]? = w'.heap[b]?) → R w2 (if i = i then v else G.rv i) (if i = i then bs else G.rb i)) ∧ ∀ b ∈ (if i = i then bs else G.rb i), _
      rw [if_pos rfl, if_pos rfl]
      refine ⟨hR, fun b hb => ?_⟩
      obtain ⟨c1, c2⟩ := hbs b hb
      refine ⟨c2, fun o p => ?_, fun j c ec eb => ?_, fun j hj eb => ?_, fun j R' ej hbj => ?_⟩
      · have := hi.publt b o p; omega
      · have := (hi.x.sgs j c ec).1; omega
      · have := hi.lt j (hne j hj).2
        have eb : G.blk j = b := eb
        omega
      · by_cases q : j = i
        · exact q.symm
        · have hbj : b ∈ (if j = i then bs else G.rb j) := hbj
          rw [if_neg q] at hbj
          have := ((hi.x.res j R' (by rw [← h2 j q]; exact ej)).2 b hbj).1
          omega
    · rw [h2 i q] at e
      obtain ⟨a, c⟩ := hi.x.res i R' e
      show (∀ w2 : World, (∀ b ∈ (if i = f then bs else G.rb i), w2.heap[b]? = w'.heap[b]?) → R' w2 (if i = f then v else G.rv i) (if i = f then bs else G.rb i)) ∧ ∀ b ∈ (if i = f then bs else G.rb i), _
      rw [if_neg q, if_neg q]
      refine ⟨fun w2 hw => a w2 fun b hb => by rw [hw b hb]; exact row b (c b hb).1, fun b hb => ?_⟩
      obtain ⟨c1, c2, c3, c4, c5⟩ := c b hb
      refine ⟨Nat.lt_of_lt_of_le c1 size, c2, c3, fun j hj => c4 j (hne j hj).2, fun j R2 ej hbj => ?_⟩
      have hbj : b ∈ (if j = f then bs else G.rb j) := hbj
      by_cases q2 : j = f
      · rw [if_pos q2] at hbj
        have := (hbs b hbj).1; omega
      · rw [if_neg q2] at hbj
        exact c5 j R2 (by rw [← h2 j q2]; exact ej) hbj
mutual
theorem E.un_un : ∀ e : E, e.un.un = e.un
  | .v _ => rfl
  | .sl es => by rw [E.un, E.un, unss_unss es]
  | .iv t e => by rw [E.un, E.un, E.un_un e]
  | .ia t es => by rw [E.un, E.un, uns_uns es]
  | .fs _ es => by rw [E.un, E.un, unss_unss es]
theorem uns_uns : ∀ es : List E, uns (uns es) = uns es
  | [] => rfl
  | e :: r => by rw [uns, uns, E.un_un e, uns_uns r]
theorem unss_unss : ∀ es : List (List E), unss (unss es) = unss es
  | [] => rfl
  | e :: r => by rw [unss, unss, uns_uns e, unss_unss r]
end
/-- Without its numbers it says the same in every ghost that publishes bz much. -/
theorem RvE.fr {w : World} {G G' : Gh} {v : Value} {e : E} (hq : ∀ b o, G.pub b o → G'.pub b o) (r : RvE w G v e) : RvE w G' v e.un := by
  induction r with
  | v h => exact .v h
  | nils h => exact .nils h
  | @sl b off n cap k es u hn hc hm hk hp hr ih =>
    refine .sl (k := k) u (by rw [unss_map, List.length_map]; exact hn) hc hm (fun e he => ?_) (fun j hj => ⟨hq _ _ (hp j hj).1, (hp j hj).2⟩) fun j d hd => ?_
    · rw [unss_map] at he
      obtain ⟨e0, h0, rfl⟩ := List.mem_map.1 he
      rw [List.length_map]; exact hk _ h0
    · rw [unss_flat, List.getElem?_map] at hd
      obtain ⟨d0, h0, rfl⟩ := Option.map_eq_some_iff.1 hd
      exact ih j d0 h0
  | iv _ ih => exact .iv ih
  | @ia t cs ds hl _ ih =>
    refine .ia (by rw [uns_map, List.length_map]; exact hl) fun j c d hc hd => ?_
    rw [uns_map, List.getElem?_map] at hd
    obtain ⟨d0, h0, rfl⟩ := Option.map_eq_some_iff.1 hd
    exact ih j c d0 hc h0
  | @fs i b n cap k es z u hs hz hn hc hm hk hp hr ih =>
    refine .sl (k := k) u (by rw [unss_map, List.length_map]; exact hn) hc hm (fun e he => ?_) (fun j hj => ⟨hq _ _ (hp j hj).1, (hp j hj).2⟩) fun j d hd => ?_
    · rw [unss_map] at he
      obtain ⟨e0, h0, rfl⟩ := List.mem_map.1 he
      rw [List.length_map]; exact hk _ h0
    · rw [unss_flat, List.getElem?_map] at hd
      obtain ⟨d0, h0, rfl⟩ := Option.map_eq_some_iff.1 hd
      exact ih j d0 h0
  | fnils h => exact .nils h
/-- A tree, bz a thing that only calls look into. -/
def Tree (e : E) : World → Value → List Nat → Prop := fun w v bs => bs.Nodup ∧ TreeAt w v bs e
/-- What an argument is for a call that makes a tree, or only looks. -/
inductive LentT (h : Hp) (L : List Nat) : D → D → Prop
  | e {a : E} (hf : a.un = a) : LentT h L (.e a) (.e a)
  | rv {i : Nat} {e : E} (hL : i ∈ L) (hb : h i = .res (Tree e)) : LentT h L (.rv i) (.e e.un)
  | agg {ds bz : List D} (hl : ds.length = bz.length) (hr : ∀ (j : Nat) d a, ds[j]? = some d → bz[j]? = some a → LentT h L d a) : LentT h L (.agg ds) (.agg bz)
def LentTs (h : Hp) (L : List Nat) : List D → List D → Prop
  | [], [] => True
  | d :: r, a :: s => LentT h L d a ∧ LentTs h L r s
  | _, _ => False
theorem LentTs.len {h : Hp} {L : List Nat} : ∀ {ds : List D} {az : List D}, LentTs h L ds az → ds.length = az.length
  | [], [], _ => rfl
  | _ :: _, _ :: _, x => by simp [LentTs.len x.2]
  | [], _ :: _, x => x.elim
  | _ :: _, [], x => x.elim
theorem LentTs.get {h : Hp} {L : List Nat} : ∀ {ds : List D} {az : List D} {j : Nat} {a : D}, LentTs h L ds az → az[j]? = some a → ∃ d, ds[j]? = some d ∧ LentT h L d a
  | [], [], j, _, _, e => by simp at e
  | d :: _, _ :: _, 0, _, x, e => by simp at e; subst e; exact ⟨d, by simp, x.1⟩
  | _ :: _, _ :: _, j + 1, _, x, e => by obtain ⟨d, h1, h2⟩ := LentTs.get x.2 (by simpa using e); exact ⟨d, by simpa using h1, h2⟩
  | [], _ :: _, _, _, x, _ => x.elim
  | _ :: _, [], _, _, x, _ => x.elim
/-- The same for a struct's parts. -/
theorem LentTs.agg {h : Hp} {L : List Nat} {ds bz : List D} (x : LentTs h L ds bz) : LentT h L (.agg ds) (.agg bz) := .agg x.len fun j d a hd ha => by
  obtain ⟨d', h1, h2⟩ := x.get ha
  rw [hd] at h1
  cases h1
  exact h2
/-- The second is the first with a tree in it taken out. -/
def Swap (f : Nat) (x : E) (d0 d1 : D) : Prop := ∀ (w : World) (G : Gh) (h : Hp) (v : Value), Rv w G h v d0 → ∃ u, RvE w G u x ∧ ∀ (w2 : World) (G2 : Gh) (h2 : Hp), Rv w2 G2 h2 u (.rv f) → Rv w2 G2 h2 v d1
theorem Swap.e {f : Nat} {x : E} : Swap f x (.e x) (.rv f) := fun _ _ _ v r => ⟨v, rv_e r, fun _ _ _ r => r⟩
theorem Swap.agg {f : Nat} {x : E} {d0 d1 : D} {ds : List D} (s : Swap f x d0 d1) (hs : scs ds = true) : Swap f x (.agg (d0 :: ds)) (.agg (d1 :: ds)) := fun w G h v r => by
  cases r with
  | @agg cs _ hl h1 hr =>
    have h0 : 0 < cs.size := by rw [hl]; simp
    obtain ⟨u, q1, q2⟩ := s w G h cs[0] (hr 0 cs[0] d0 (by simp [h0]) rfl)
    refine ⟨u, q1, fun w2 G2 h2 r2 => .agg (by simpa using hl) h1 fun j c d hc hd => ?_⟩
    cases j with
    | zero =>
      simp at hd
      subst hd
      have : cs[0] = c := by simpa [h0] using hc
      rw [← this]
      exact q2 w2 G2 h2 r2
    | succ j => exact (hr (j + 1) c d hc (by simpa using hd)).sc (scs_get hs (by simpa using hd))
theorem Swap.tup {f : Nat} {x : E} {d0 d1 : D} {ds : List D} (s : Swap f x d0 d1) (hs : scs ds = true) : Swap f x (.tup (d0 :: ds)) (.tup (d1 :: ds)) := fun w G h v r => by
  cases r with
  | @tup cs _ hl hr =>
    have h0 : 0 < cs.size := by rw [hl]; simp
    obtain ⟨u, q1, q2⟩ := s w G h cs[0] (hr 0 cs[0] d0 (by simp [h0]) rfl)
    refine ⟨u, q1, fun w2 G2 h2 r2 => .tup (by simpa using hl) fun j c d hc hd => ?_⟩
    cases j with
    | zero =>
      simp at hd
      subst hd
      have : cs[0] = c := by simpa [h0] using hc
      rw [← this]
      exact q2 w2 G2 h2 r2
    | succ j => exact (hr (j + 1) c d hc (by simpa using hd)).sc (scs_get hs (by simpa using hd))
/-- The callee's ghost: all of memory may be read, no number is given. -/
def pub0 (w : World) : Gh := ⟨fun b _ => b < w.heap.size, fun _ => 0, fun _ => none, fun _ => .bool true, fun _ => []⟩
theorem pub0_inv {w : World} : Inv w (pub0 w) (hpF [.ids 0]) := by
  have nh : ∀ j k, (hpF [O.ids k] j).has = false := fun j k => by rw [ids_hp]; split <;> rfl
  have no : ∀ {j k : Nat} {o : O}, hpF [O.ids k] j = o → (∀ m, o ≠ .ids m) → o = .dead := fun {j k o} e h1 => by
    rw [ids_hp] at e
    split at e
    · exact absurd e.symm (h1 _)
    · exact e.symm
  refine ⟨fun j h => ?_, fun j k h => ?_, fun _ _ p => p, fun j ds e => ?_, fun j n k e => ?_, fun j b k ds e => ?_, fun j l e => ?_, ⟨fun j b e => (by cases e), fun j k b c e => (by cases e), fun j m' e k hk => rfl, fun j k m1 m2 e1 e2 => ?_, fun j R e => ?_⟩⟩
  · rw [nh] at h; cases h
  · rw [nh] at h; cases h
  · have := no e (by simp); cases this
  · have := no e (by simp); cases this
  · have := no e (by simp); cases this
  · have := no e (by simp); cases this
  · rw [ids_hp] at e1 e2
    split at e1
    · split at e2
      · omega
      · cases e2
    · cases e1
  · have := no e (by simp); cases this
theorem lentT_rv {w : World} {G : Gh} {h h' : Hp} {L : List Nat} (hi : Inv w G h') (he : ∀ i ∈ L, h' i = h i) {d : D} {a : D} (x : LentT h L d a) {hh : Hp} : ∀ {v : Value}, Rv w G h' v d → Rv w (pub0 w) hh v a := by
  induction x with
  | e hf =>
    intro v r
    refine .e ?_
    rw [← hf]
    exact (rv_e r).fr fun b o p => hi.publt b o p
  | @rv i e hL hb =>
    intro v r
    rw [← he i hL] at hb
    cases r with
    | rv _ _ =>
      obtain ⟨q1, q2⟩ := hi.x.res i _ hb
      obtain ⟨_, t⟩ := q1 w fun _ _ => rfl
      exact .e (t.rvE fun b hb o => (q2 b hb).1)
  | @agg ds bz hl hr ih =>
    intro v r
    cases r with
    | @agg cs _ hl2 h1 hr2 =>
      refine .agg (hl2.trans hl) h1 fun j c a hc ha => ?_
      have hj : j < ds.length := by rw [hl]; exact (List.getElem?_eq_some_iff.1 ha).1
      exact ih j ds[j] a (by simp [hj]) ha (hr2 j c ds[j] hc (by simp [hj]))
/-- A call that makes a tree. -/
theorem Proc.callT {P : Program} {fn : FuncId} {ds : List D} {az : List D} {m : Nat} {e : E} {ns : List Nat} {h0 : Hp} {L : List Nat} {f : Nat} {d0 d1 : D} (h : Proc P fn (fun _ => az) (fun _ => [.ids 0]) (fun _ => d0) (fun _ => [.ids m])) (hns : e.nums = some ns) (hnd : ns.Nodup) (hsw : Swap f e d0 d1) (ha : LentTs h0 L ds az) :
    CallE P fn ds (L.map fun i => (i, h0 i)) f { d := some d1, al := [.res (Tree e)], tc := L } := by
  intro w G hh h' vs hi hpre hal he hs hr
  have hf : hh f = .dead := hal 0 (by simp)
  have e1 : h' f = .res (Tree e) := by rw [he f]; simp
  have e2 : ∀ j, j ≠ f → h' j = hh j := fun j q => by
    rw [he j]
    simp only [List.length_cons, List.length_nil, List.find?_nil]
    rw [if_neg (by omega)]
  refine (h.ok w (pub0 w) vs pub0_inv (by rw [hs, ha.len]) fun j v x hv hx => ?_).mono fun en w' ⟨v, d', l', G1, q1, q2, q3, q4, q5⟩ => ?_
  · obtain ⟨d0, h1, h2⟩ := ha.get hx
    exact lentT_rv hi (fun i hL => hpre i _ (List.mem_map.2 ⟨i, hL, rfl⟩)) h2 (hr j v d0 hv h1)
  · obtain ⟨G2, r1, r2, r3⟩ := q2 w' G1 v q4 q3
    have x := r3 _ _ q5
    obtain ⟨u, ru, back⟩ := hsw _ _ _ _ r1
    obtain ⟨bs, t1, t2⟩ := ru.tree (fun j b e => (r2.x.sgs j b e).2.2) ns hns
    have row : ∀ b, b < w.heap.size → w'.heap[b]? = w.heap[b]? := fun b hb => x.others b hb (fun i q => by rw [ids_hp] at q; split at q <;> cases q) fun i R q => by rw [ids_hp] at q; split at q <;> cases q
    have fresh : ∀ b ∈ bs, w.heap.size ≤ b ∧ b < w'.heap.size := fun b hb => by
      obtain ⟨j, _, z, ej⟩ := t2.mem hb
      refine ⟨?_, (r2.x.sgs j _ ej).1⟩
      rcases x.sgw j _ ej with q | q | ⟨i, q, _⟩
      · cases q
      · exact q
      · rw [ids_hp] at q; split at q <;> cases q
    obtain ⟨i1, x1⟩ := frame_new (R := Tree e) (v := u) (bs := bs) hi hf e1 e2 x.os x.tape x.output x.size row fresh fun w2 hw => ⟨t2.nodup r2.x.sgi hnd, t1.frame hw⟩
    refine ⟨v, d1, _, q1, rfl, ?_, i1, x1⟩
    have := Rv.rv (w := w') (G := G.more f u bs) (h := h') (i := f) e1 (by simp only [Gh.more, if_pos]; exact t1.cell)
    exact back _ _ _ (by simpa [Gh.more] using this)
end Go.Proofs.Ytfplalbognalkaa.Ab
/- Steps of a law: calls that make trees, calls that look into them. -/
namespace Go.Proofs.Ytfplalbognalkaa.Ab
open Go
theorem frame_same {w w' : World} {G : Gh} {h : Hp} (hi : Inv w G h) (os : w'.os = w.os) (tape : w'.tape = w.tape) (output : w'.output = w.output) (size : w.heap.size ≤ w'.heap.size) (row : ∀ b, b < w.heap.size → w'.heap[b]? = w.heap[b]?) :
    Inv w' G h ∧ Ext w G h w' G h := by
  refine frame_look (G1 := allPub w G) (h1 := hpF []) hi ?_
  rw [hpF_nil]
  exact ⟨os, tape, output, size, fun b o p => ⟨p, by simp only [World.cell?]; rw [row b p]⟩, fun i ds e => (by simp at e), fun i n k e => (by simp at e), fun b hb _ _ => row b hb, fun i e => (by simp [O.has] at e), fun _ _ p => .inl p,
    fun i b k ds e => (by simp at e), fun i e => (by simp at e), fun i l e => (by simp at e), fun _ _ e => e, fun i m e => (by simp at e), fun i R e => (by simp at e), fun i R e => (by simp at e), fun i m e => (by simp at e), fun _ => rfl, fun _ _ e => .inl e⟩
theorem pub0_inv' {w : World} : Inv w (pub0 w) (hpF []) := by
  rw [hpF_nil]
  exact ⟨fun i h => by simp [O.has] at h, fun i j h => by simp [O.has] at h, fun _ _ p => p, fun i ds e => by simp at e, fun i n k e => by simp at e, fun i b k ds e => by simp at e, fun i l e => by simp at e, ⟨fun j b e => (by cases e), fun i j b c e => (by cases e), fun i m e => (by simp at e), fun i j m m' e => (by simp at e), fun i R e => (by simp at e)⟩⟩
/-- A call that looks into trees. -/
theorem Plain.callT {P : Program} {fn : FuncId} {ds : List D} {az : List D} {d : D} {h0 : Hp} {L : List Nat} (h : Plain P fn az d) (ha : LentTs h0 L ds az) (hd : d.sc = true) (f : Nat) : CallE P fn ds (L.map fun i => (i, h0 i)) f { d := some d, tc := L } := by
  intro w G hh h' vs hi hpre _ he hs hr
  have e' : h' = hh := by
    funext i
    rw [he i]
    simp only [List.length_nil, Nat.add_zero, List.find?_nil]
    rw [if_neg (by omega)]
  subst e'
  refine (h w (pub0 w) vs pub0_inv' (by rw [hs, ha.len]) fun j v x hv hx => ?_).mono fun e w' ⟨v, d', l', G1, q1, q2, q3, q4, q5⟩ => ?_
  · obtain ⟨d0, h1, h2⟩ := ha.get hx
    exact lentT_rv hi (fun i hL => hpre i _ (List.mem_map.2 ⟨i, hL, rfl⟩)) h2 (hr j v d0 hv h1)
  · obtain ⟨G2, r1, r2, r3⟩ := q2 w' G1 v q4 q3
    have x := r3 _ _ q5
    rw [hpF_nil] at x
    obtain ⟨i1, x1⟩ := frame_same hi x.os x.tape x.output x.size fun b hb => x.others b hb (fun i q => by simp [O.has] at q) fun i R q => by simp at q
    exact ⟨v, d, G, q1, rfl, r1.sc hd, i1, x1⟩
theorem callK_lookT {A : Ar} (hA : A.Ok) {P Q : Program} (e : P = Q) {hp : Hp} {f : Nat} {gd g : Bool} {fn : FuncId} {ds : List D} {az : List D} {d : D} {o : Prop} {K : Prop → Eff → Prop} (L : List Nat)
    (h : g = true → o → Plain Q fn az d) (ha : LentTs hp L ds az) (hd : d.sc = true) (hk : K o { d := some (if gd then .when g d else d), tc := L }) : A.call P hp f gd g fn ds o K :=
  hA.call _ _ _ _ _ _ _ _ _ ⟨ds, L.map fun i => (i, hp i), { d := some d, tc := L }, Wks.refl _, (fun hg ho => e ▸ (h hg ho).callT ha hd f), (fun i o hm => by
    obtain ⟨i', _, e⟩ := List.mem_map.1 hm
    cases e; rfl), fun _ _ => ⟨rfl, rfl⟩, fun _ h => (List.not_mem_nil h).elim, by simp [Function.comp_def], d, rfl, hk⟩
theorem callK_tree {A : Ar} (hA : A.Ok) {P Q : Program} (e : P = Q) {hp : Hp} {f : Nat} {g : Bool} {fn : FuncId} {ds : List D} {az : List D} {m : Nat} {x : E} {ns : List Nat} {o : Prop} {K : Prop → Eff → Prop} {d0 d1 : D} (L : List Nat)
    (h : g = true → o → Proc Q fn (fun _ => az) (fun _ => [.ids 0]) (fun _ => d0) (fun _ => [.ids m])) (ha : LentTs hp L ds az) (hns : x.nums = some ns) (hnd : ns.Nodup) (hsw : Swap f x d0 d1) (hk : K o { d := some d1, al := [.res (Tree x)], tc := L }) : A.call P hp f false g fn ds o K :=
  hA.call _ _ _ _ _ _ _ _ _ ⟨ds, L.map fun i => (i, hp i), { d := some d1, al := [.res (Tree x)], tc := L }, Wks.refl _, (fun hg ho => e ▸ (h hg ho).callT hns hnd hsw ha), (fun i o hm => by
    obtain ⟨i', _, e⟩ := List.mem_map.1 hm
    cases e; rfl), fun h => (by cases h), fun _ h => (List.not_mem_nil h).elim, by simp [Function.comp_def], _, rfl, by simpa using hk⟩
/-! ### Marks -/
/-- A scalar. -/
def E.sca : E → Bool
  | .v _ => true
  | _ => false
/-- Behind a call that wrote into one thing. -/
theorem frame_mark {w w' : World} {G : Gh} {h h' : Hp} {i : Nat} {R R' : World → Value → List Nat → Prop} {bs' : List Nat} (hi : Inv w G h) (h0 : h i = .res R) (h1 : h' i = .res R') (h2 : ∀ j, j ≠ i → h' j = h j)
    (os : w'.os = w.os) (tape : w'.tape = w.tape) (output : w'.output = w.output) (size : w.heap.size ≤ w'.heap.size) (row : ∀ b, b < w.heap.size → b ∉ G.rb i → w'.heap[b]? = w.heap[b]?)
    (hbs : ∀ b ∈ bs', b < w'.heap.size ∧ (b ∈ G.rb i ∨ w.heap.size ≤ b)) (hR : ∀ w2 : World, (∀ b ∈ bs', w2.heap[b]? = w'.heap[b]?) → R' w2 (G.rv i) bs') :
    Inv w' (G.more i (G.rv i) bs') h' ∧ Ext w G h w' (G.more i (G.rv i) bs') h' := by
  obtain ⟨_, hc⟩ := hi.x.res i R h0
  have rpub : ∀ b o, G.pub b o → w'.heap[b]? = w.heap[b]? := fun b o p => row b (hi.publt b o p) fun hb => (hc b hb).2.1 o p
  have rhas : ∀ j, (h j).has = true → w'.heap[G.blk j]? = w.heap[G.blk j]? := fun j hj => row _ (hi.lt j hj) fun hb => (hc _ hb).2.2.2.1 j hj rfl
  have hne : ∀ j, (h' j).has = true → j ≠ i ∧ (h j).has = true := fun j hj => by
    have q : j ≠ i := fun q => by rw [q, h1] at hj; cases hj
    exact ⟨q, by rw [← h2 j q]; exact hj⟩
  have nd : ∀ {j o}, h j = o → (∀ R, o ≠ .res R) → h' j = o := fun {j o} e q => by
    rw [h2 j (fun q2 => q R (by rw [← e, q2, h0]))]; exact e
  have back : ∀ {j o}, h' j = o → (∀ R, o ≠ .res R) → h j = o := fun {j o} e q => by
    rw [← h2 j (fun q2 => q R' (by rw [← e, q2, h1]))]; exact e
  have rv' : ∀ j, (G.more i (G.rv i) bs').rv j = G.rv j := fun j => by
    simp only [Gh.more]
    split
    · rename_i q; rw [q]
    · rfl
  have ext : Ext w G h w' (G.more i (G.rv i) bs') h' := {
    os := os
    tape := tape
    output := output
    size := size
    sgm := fun _ _ e => e
    idm := fun j m e => ⟨m, nd e (by simp)⟩
    rvm := fun j R2 e => ⟨by
      by_cases q : j = i
      · subst q; exact ⟨R', h1⟩
      · exact ⟨R2, by rw [h2 j q]; exact e⟩, rv' j⟩
    rbnew := fun j R2 e b hb => by
      simp only [Gh.more] at hb
      split at hb
      · rcases (hbs b hb).2 with q | q
        · exact .inl ⟨i, R, h0, q⟩
        · exact .inr q
      · rename_i q
        exact .inl ⟨j, R2, by rw [← h2 j q]; exact e, hb⟩
    idn := fun j m e => ⟨j, m, back e (by simp)⟩
    sgn := fun _ => rfl
    sgw := fun _ _ e => .inl e
    pub := fun b o p => ⟨p, by simp only [World.cell?]; rw [rpub b o p]⟩
    box := fun i ds e => ⟨⟨ds, nd e (by simp), rfl⟩, rfl⟩
    tok := fun i n k e => ⟨n, nd e (by simp), Nat.le_refl _, fun _ hn => ⟨rfl, by simp only [World.shape?]; rw [rhas i (by rw [e]; simp [O.has, hn])]⟩⟩
    others := fun b hb _ hq => row b hb (hq i R h0)
    new := fun i hi => .inl ⟨i, (hne i hi).2, rfl⟩
    vec := fun i b k ds e => .inr ⟨ds, nd e (by simp), Nat.le_refl _, fun hb => ⟨rfl, by simp only [World.shape?]; rw [rhas i (by rw [e]; exact hb)]⟩⟩
    gone := fun _ e => nd e (by simp)
    smap := fun _ l e => ⟨⟨l, nd e (by simp)⟩, rfl⟩
    pubnew := fun b o p => .inl p }
  refine ⟨⟨fun i hh => Nat.lt_of_lt_of_le (hi.lt i (hne i hh).2) size, fun i j a c e => hi.inj i j (hne i a).2 (hne j c).2 e, fun b o p => Nat.lt_of_lt_of_le (hi.publt b o p) size, fun i ds e => ?_, fun i n k e hn => ?_, fun i b k ds e => ?_, fun i l e => ?_,
    ⟨fun j b e => ?_, hi.x.sgi, fun i m e => hi.x.ids i m (back e (by simp)), fun i j m m' a c => hi.x.idu i j m m' (back a (by simp)) (back c (by simp)), fun j R2 e => ?_⟩⟩, ext⟩
  · have e0 := back e (by simp)
    obtain ⟨a1, cs, T, a2, a3, a4⟩ := hi.box i ds e0
    exact ⟨a1, cs, T, by rw [← a2]; exact rhas i (by rw [e0]; rfl), a3, fun j c d hc hd => ⟨(a4 j c d hc hd).1.ext ext, (a4 j c d hc hd).2⟩⟩
  · have e0 := back e (by simp)
    obtain ⟨⟨cs, T, a1⟩, a2⟩ := hi.front i n k e0 hn
    exact ⟨⟨cs, T, by rw [← a1]; exact rhas i (by rw [e0]; simp [O.has, hn])⟩, a2⟩
  · have e0 := back e (by simp)
    obtain ⟨a0, a⟩ := hi.vec i b k ds e0
    refine ⟨a0, fun hb => ?_⟩
    obtain ⟨a1, cs, T, a2, a3, a4⟩ := a hb
    exact ⟨a1, cs, T, by rw [← a2]; exact rhas i (by rw [e0]; exact hb), a3, fun j c d hc hd => ⟨(a4 j c d hc hd).1.ext ext, (a4 j c d hc hd).2⟩⟩
  · have e0 := back e (by simp)
    obtain ⟨a1, es, ck, a2, a3, a4⟩ := hi.smap i l e0
    exact ⟨a1, es, ck, by rw [← a2]; exact rhas i (by rw [e0]; rfl), a3, fun j e p a b => ⟨(a4 j e p a b).1, RvE.mono (G' := G.more _ _ bs') ext.pub ext.sgm (a4 j e p a b).2⟩⟩
  · obtain ⟨a, c, d⟩ := hi.x.sgs j b e
    exact ⟨Nat.lt_of_lt_of_le a size, fun i hh => c i (hne i hh).2, by rw [row _ a fun hb => (hc _ hb).2.2.1 j b e rfl]; exact d⟩
  · rw [rv' j]
    by_cases q : j = i
    · subst q
      rw [h1] at e
      cases e
      have hrb : (G.more j (G.rv j) bs').rb j = bs' := by simp [Gh.more]
      rw [hrb]
      refine ⟨hR, fun b hb => ?_⟩
      obtain ⟨c1, c2⟩ := hbs b hb
      refine ⟨c1, fun o p => ?_, fun k c ec eb => ?_, fun k hk eb => ?_, fun k R2 ek hbk => ?_⟩
      · have p : G.pub b o := p
        rcases c2 with c2 | c2
        · exact (hc b c2).2.1 o p
        · have := hi.publt b o p; omega
      · have ec : G.sg k = some c := ec
        rcases c2 with c2 | c2
        · exact (hc b c2).2.2.1 k c ec eb
        · have := (hi.x.sgs k c ec).1; omega
      · have eb : G.blk k = b := eb
        rcases c2 with c2 | c2
        · exact (hc b c2).2.2.2.1 k (hne k hk).2 eb
        · have := hi.lt k (hne k hk).2; omega
      · by_cases q : k = j
        · exact q.symm
        · have hbk : b ∈ (if k = j then bs' else G.rb k) := hbk
          rw [if_neg q] at hbk
          have ek' : h k = .res R2 := by rw [← h2 k q]; exact ek
          rcases c2 with c2 | c2
          · exact (hc b c2).2.2.2.2 k R2 ek' hbk
          · have := ((hi.x.res k R2 ek').2 b hbk).1
            omega
    · rw [h2 j q] at e
      obtain ⟨a, c⟩ := hi.x.res j R2 e
      have hrb : (G.more i (G.rv i) bs').rb j = G.rb j := by simp [Gh.more, q]
      rw [hrb]
      have out : ∀ b ∈ G.rb j, b ∉ G.rb i := fun b hb hb' => q ((c b hb).2.2.2.2 i R h0 hb')
      refine ⟨fun w2 hw => a w2 fun b hb => by rw [hw b hb]; exact row b (c b hb).1 (out b hb), fun b hb => ?_⟩
      obtain ⟨c1, c2, c3, c4, c5⟩ := c b hb
      refine ⟨Nat.lt_of_lt_of_le c1 size, c2, c3, fun k hk => c4 k (hne k hk).2, fun k R3 ek hbk => ?_⟩
      have hbk : b ∈ (if k = i then bs' else G.rb k) := hbk
      by_cases q2 : k = i
      · rw [if_pos q2] at hbk
        rcases (hbs b hbk).2 with q3 | q3
        · exact absurd q3 (out b hb)
        · omega
      · rw [if_neg q2] at hbk
        exact c5 k R3 (by rw [← h2 k q2]; exact ek) hbk
/-- A function that writes into a tree and nothing else; 'sh': how the tree's root is handed to it. -/
def MarkC (P : Program) (fn : FuncId) (sh : Value → Value) (e e' : E) (k k' : Int) : Prop := ∀ (w : World) (v : Value) (bs : List Nat), bs.Nodup → (∀ b ∈ bs, b < w.heap.size) → TreeAt w v bs e →
  Calls P fn #[sh v, .int .i64 k] w fun en w' => en = .returned (.int .i64 k') ∧ okV (.int .i64 k') = true ∧ w'.os = w.os ∧ w'.tape = w.tape ∧ w'.output = w.output ∧ w.heap.size ≤ w'.heap.size ∧ (∀ b, b < w.heap.size → b ∉ bs → w'.heap[b]? = w.heap[b]?) ∧
    ∃ bs', bs'.Nodup ∧ (∀ b ∈ bs', b < w'.heap.size ∧ (b ∈ bs ∨ w.heap.size ≤ b)) ∧ TreeAt w' v bs' e'
theorem two_args {w : World} {G : Gh} {h : Hp} {vs : Array Value} {d : D} {k : Int} {x : Value} (hs : vs.size = 2) (hr : ∀ (j : Nat) v a, vs[j]? = some v → [d, .e (.v (.int .i64 k))][j]? = some a → Rv w G h v a) (hx : ∀ v, Rv w G h v d → v = x) : vs = #[x, .int .i64 k] := by
  have h1 : vs[1] = .int .i64 k := by
    have := rv_e (hr 1 vs[1] (.e (.v (.int .i64 k))) (by simp [hs]) rfl)
    generalize vs[1] = y at this
    cases this; rfl
  have h0 : vs[0] = x := hx _ (hr 0 vs[0] d (by simp [hs]) rfl)
  refine Array.ext (by simpa using hs) fun i a b => ?_
  match i with
  | 0 => exact h0
  | 1 => exact h1
  | i + 2 => simp at b; omega
/-- A mark into a thing of one's own. -/
theorem MarkC.callE {P : Program} {fn : FuncId} {sh : Value → Value} {e e' : E} {k k' : Int} {i f : Nat} {d : D} (h : MarkC P fn sh e e' k k') (hd : ∀ (w : World) (G : Gh) (h : Hp) v, Rv w G h v d → v = sh (G.rv i)) :
    CallE P fn [d, .e (.v (.int .i64 k))] [(i, .res (Tree e))] f { d := some (.e (.v (.int .i64 k'))), wr := [(i, .res (Tree e'))], tc := [i] } := by
  intro w G hh h' vs hi hpre _ he hs hr
  have e0 : hh i = .res (Tree e) := hpre i _ (by simp)
  have e1 : h' i = .res (Tree e') := by
    rw [he i, if_neg (by simp)]
    simp
  have e2 : ∀ j, j ≠ i → h' j = hh j := fun j q => by
    rw [he j, if_neg (by simp)]
    have : (i == j) = false := by simp; omega
    simp [this]
  obtain ⟨a, c⟩ := hi.x.res i _ e0
  obtain ⟨nd, t⟩ := a w fun _ _ => rfl
  have hv := two_args hs hr fun v r => hd w G hh v r
  subst hv
  refine (h w (G.rv i) (G.rb i) nd (fun b hb => (c b hb).1) t).mono fun en w' ⟨q1, ok, os, tp, ou, sz, row, bs', n', l', t'⟩ => ?_
  obtain ⟨i1, x1⟩ := frame_mark (R' := Tree e') (bs' := bs') hi e0 e1 e2 os tp ou sz row l' fun w2 hw => ⟨n', t'.frame hw⟩
  exact ⟨_, _, _, q1, rfl, .e (.v ok), i1, x1⟩
theorem callK_mark {A : Ar} (hA : A.Ok) {P Q : Program} (e : P = Q) {hp : Hp} {f : Nat} {g : Bool} {fn : FuncId} {sh : Value → Value} {x x' : E} {k k' : Int} {d : D} {o : Prop} {K : Prop → Eff → Prop} (i : Nat) (hb : hp i = .res (Tree x))
    (hd : ∀ (w : World) (G : Gh) (h : Hp) v, Rv w G h v d → v = sh (G.rv i)) (hk : K o { d := some (.e (.v (.int .i64 k'))), wr := [(i, .res (Tree x'))], tc := [i] }) (h : MarkC Q fn sh x x' k k') : A.call P hp f false g fn [d, .e (.v (.int .i64 k))] o K :=
  hA.call _ _ _ _ _ _ _ _ _ ⟨_, [(i, .res (Tree x))], { d := some (.e (.v (.int .i64 k'))), wr := [(i, .res (Tree x'))], tc := [i] }, Wks.refl _, (fun _ _ => e ▸ h.callE hd), (fun j o hm => by
    rw [List.mem_singleton] at hm; cases hm; exact hb), fun h => (by cases h), fun y hy => by rw [List.mem_singleton] at hy; subst hy; simp, by simp, _, rfl, by simpa using hk⟩
/-- A call that writes into one thing. -/
theorem callK_res {A : Ar} (hA : A.Ok) {P Q : Program} (e : P = Q) {hp : Hp} {f : Nat} {g : Bool} {fn : FuncId} {ds : List D} {d : D} {i : Nat} {R R' : World → Value → List Nat → Prop} {o : Prop} {K : Prop → Eff → Prop} (hb : hp i = .res R)
    (hk : K o { d := some d, wr := [(i, .res R')], tc := [i] }) (h : ∀ f, CallE Q fn ds [(i, .res R)] f { d := some d, wr := [(i, .res R')], tc := [i] }) : A.call P hp f false g fn ds o K :=
  hA.call _ _ _ _ _ _ _ _ _ ⟨_, [(i, .res R)], { d := some d, wr := [(i, .res R')], tc := [i] }, Wks.refl _, (fun _ _ => e ▸ h f), (fun j o hm => by
    rw [List.mem_singleton] at hm; cases hm; exact hb), fun h => (by cases h), fun y hy => by rw [List.mem_singleton] at hy; subst hy; simp, by simp, _, rfl, by simpa using hk⟩
/-- Trees in a row. -/
def Trees (vs : List Value) (ts : List E) : World → Value → List Nat → Prop := fun w _ bs => bs.Nodup ∧ ∃ bss : List (List Nat), bs = bss.flatten ∧ bss.length = ts.length ∧ (∀ (j : Nat) e, ts[j]? = some e → e.sca = true → bss.getD j [] = []) ∧
  ∀ (j : Nat) v e, vs[j]? = some v → ts[j]? = some e → e.sca = false → TreeAt w v (bss.getD j []) e
theorem mem_set_flat {bss : List (List Nat)} {j : Nat} {l : List Nat} {b : Nat} (h : b ∈ (bss.set j l).flatten) : b ∈ l ∨ b ∈ bss.flatten := by
  obtain ⟨x, h1, h2⟩ := List.mem_flatten.1 h
  rcases List.mem_or_eq_of_mem_set h1 with q | rfl
  · exact .inr (List.mem_flatten.2 ⟨x, q, h2⟩)
  · exact .inl h2
theorem flat_disj : ∀ {bss : List (List Nat)} {i j b : Nat}, bss.flatten.Nodup → b ∈ bss.getD i [] → b ∈ bss.getD j [] → i = j
  | [], i, j, b, _, hi, _ => by simp at hi
  | a :: r, 0, 0, _, _, _, _ => rfl
  | a :: r, 0, j + 1, b, nd, hi, hj => by
    rw [List.flatten_cons, List.nodup_append] at nd
    exact absurd rfl (nd.2.2 b (by simpa using hi) b (mem_getD_flatten (by simpa using hj)))
  | a :: r, i + 1, 0, b, nd, hi, hj => by
    rw [List.flatten_cons, List.nodup_append] at nd
    exact absurd rfl (nd.2.2 b (by simpa using hj) b (mem_getD_flatten (by simpa using hi)))
  | a :: r, i + 1, j + 1, b, nd, hi, hj => by
    rw [List.flatten_cons, List.nodup_append] at nd
    exact congrArg (· + 1) (flat_disj (bss := r) (b := b) nd.2.1 (by simpa using hi) (by simpa using hj))
theorem nodup_getD : ∀ {bss : List (List Nat)} {j : Nat}, bss.flatten.Nodup → (bss.getD j []).Nodup
  | [], j, _ => by simp
  | a :: r, 0, nd => by
    rw [List.flatten_cons, List.nodup_append] at nd
    exact nd.1
  | a :: r, j + 1, nd => by
    rw [List.flatten_cons, List.nodup_append] at nd
    simpa using nodup_getD (j := j) nd.2.1
theorem nodup_set : ∀ {bss : List (List Nat)} {j N : Nat} {l : List Nat}, bss.flatten.Nodup → l.Nodup → (∀ b ∈ l, b ∈ bss.getD j [] ∨ N ≤ b) → (∀ b ∈ bss.flatten, b < N) → (bss.set j l).flatten.Nodup
  | [], _, _, _, _, _, _, _ => by simp
  | a :: r, 0, N, l, nd, hl, hd, hN => by
    rw [List.flatten_cons, List.nodup_append] at nd
    rw [List.set_cons_zero, List.flatten_cons, List.nodup_append]
    refine ⟨hl, nd.2.1, fun x hx y hy => ?_⟩
    rcases hd x hx with q | q
    · exact nd.2.2 x (by simpa using q) y hy
    · have := hN y (by rw [List.flatten_cons]; exact List.mem_append_right _ hy); omega
  | a :: r, j + 1, N, l, nd, hl, hd, hN => by
    rw [List.flatten_cons, List.nodup_append] at nd
    rw [List.set_cons_succ, List.flatten_cons, List.nodup_append]
    refine ⟨nd.1, nodup_set (N := N) nd.2.1 hl (fun b hb => by simpa using hd b hb) (fun b hb => hN b (by rw [List.flatten_cons]; exact List.mem_append_right _ hb)), fun x hx y hy => ?_⟩
    rcases mem_set_flat hy with q | q
    · rcases hd y q with q | q
      · exact nd.2.2 x hx y (mem_getD_flatten (by simpa using q))
      · have := hN x (by rw [List.flatten_cons]; exact List.mem_append_left _ hx); omega
    · exact nd.2.2 x hx y q
/-- A mark into one tree of a row. -/
theorem MarkC.callEs {P : Program} {fn : FuncId} {e e' : E} {k k' : Int} {i f j : Nat} {vs0 : List Value} {ts : List E} {v : Value} (h : MarkC P fn id e e' k k') (hv : vs0[j]? = some v) (ht : ts[j]? = some e) (hs0 : e.sca = false) (hs1 : e'.sca = false) :
    CallE P fn [.e (.v v), .e (.v (.int .i64 k))] [(i, .res (Trees vs0 ts))] f { d := some (.e (.v (.int .i64 k'))), wr := [(i, .res (Trees vs0 (ts.set j e')))], tc := [i] } := by
  intro w G hh h' vs hi hpre _ he hs hr
  have e0 : hh i = .res (Trees vs0 ts) := hpre i _ (by simp)
  have e1 : h' i = .res (Trees vs0 (ts.set j e')) := by
    rw [he i, if_neg (by simp)]
    simp
  have e2 : ∀ j, j ≠ i → h' j = hh j := fun j q => by
    rw [he j, if_neg (by simp)]
    have : (i == j) = false := by simp; omega
    simp [this]
  obtain ⟨a, c⟩ := hi.x.res i _ e0
  obtain ⟨nd, bss, eb, el, hsc, hsl⟩ := a w fun _ _ => rfl
  have t := hsl j v e hv ht hs0
  have hj : j < ts.length := (List.getElem?_eq_some_iff.1 ht).1
  have sub : ∀ m, ∀ b ∈ bss.getD m [], b ∈ G.rb i := fun m b hb => by rw [eb]; exact mem_getD_flatten hb
  have hv2 := two_args (x := v) hs hr fun u r => by
    have r := rv_e r
    cases r; rfl
  subst hv2
  have ndj : (bss.getD j []).Nodup := by
    rw [eb] at nd
    exact nodup_getD nd
  refine (h w v (bss.getD j []) ndj (fun b hb => (c b (sub j b hb)).1) t).mono fun en w' ⟨q1, ok, os, tp, ou, sz, row, bs', n', l', t'⟩ => ?_
  have setj : (bss.set j bs').getD j [] = bs' := by simp [List.getD, show j < bss.length by omega]
  have setm : ∀ m, m ≠ j → (bss.set j bs').getD m [] = bss.getD m [] := fun m q => by simp [List.getD, List.getElem?_set_ne (Ne.symm q)]
  have hA : ∀ b ∈ (bss.set j bs').flatten, b < w'.heap.size ∧ (b ∈ G.rb i ∨ w.heap.size ≤ b) := fun b hb => by
    rcases mem_set_flat hb with q | q
    · obtain ⟨c1, c2⟩ := l' b q
      exact ⟨c1, c2.imp_left (sub j b)⟩
    · rw [← eb] at q
      exact ⟨Nat.lt_of_lt_of_le (c b q).1 sz, .inl q⟩
  have hB : ∀ w2 : World, (∀ b ∈ (bss.set j bs').flatten, w2.heap[b]? = w'.heap[b]?) → Trees vs0 (ts.set j e') w2 (G.rv i) (bss.set j bs').flatten := fun w2 hw => by
    refine ⟨nodup_set (N := w.heap.size) (by rw [← eb]; exact nd) n' (fun b hb => (l' b hb).2) (fun b hb => (c b (by rw [eb]; exact hb)).1), bss.set j bs', rfl, by simp [el], fun m x hx hxs => ?_, fun m u x hu hx hxs => ?_⟩
    · by_cases q : m = j
      · subst q
        rw [List.getElem?_set_self hj] at hx
        cases hx
        rw [hs1] at hxs; cases hxs
      · rw [List.getElem?_set_ne (Ne.symm q)] at hx
        rw [setm m q]
        exact hsc m x hx hxs
    · by_cases q : m = j
      · subst q
        rw [List.getElem?_set_self hj] at hx
        cases hx
        rw [hv] at hu
        cases hu
        rw [setj]
        exact t'.frame fun b hb => hw b (mem_getD_flatten (j := m) (by rw [setj]; exact hb))
      · rw [List.getElem?_set_ne (Ne.symm q)] at hx
        rw [setm m q]
        refine (hsl m u x hu hx hxs).frame fun b hb => ?_
        rw [hw b (mem_getD_flatten (j := m) (by rw [setm m q]; exact hb))]
        exact row b (c b (sub m b hb)).1 fun hb' => q (flat_disj (by rw [← eb]; exact nd) hb hb')
  obtain ⟨i1, x1⟩ := frame_mark (R' := Trees vs0 (ts.set j e')) (bs' := (bss.set j bs').flatten) hi e0 e1 e2 os tp ou sz (fun b hb hn => row b hb fun q => hn (sub j b q)) hA hB
  exact ⟨_, _, _, q1, rfl, .e (.v ok), i1, x1⟩
end Go.Proofs.Ytfplalbognalkaa.Ab
