/- Expressions: the value, by the program. -/
import Derived.Test.YtmnhoglkahmlaaaW3
set_option linter.unusedSimpArgs false
set_option linter.unusedVariables false
set_option linter.unnecessarySimpa false
set_option linter.constructorNameAsVariable false
namespace Go.Proofs.Ytmnhoglkahmlaaa.Ab
open Go
/-- The stack's cells. -/
def dsOf (st : List V) : List D := (st.reverse.map vr).flatten.map D.e
theorem dsOf_cons (v : V) (st : List V) : dsOf (v :: st) = dsOf st ++ [D.bool v.1, D.int v.2] := by simp [dsOf]
theorem dsOf_len (st : List V) : (dsOf st).length = st.length * 2 := by
  induction st with
  | nil => rfl
  | cons v st ih => rw [dsOf_cons, List.length_append, ih]; simp; omega
theorem dsOf_ren (t : RF) (st : List V) : rens t (dsOf st) = dsOf st := rens_e t _
theorem dsOf_lt (m : Nat) (st : List V) : lts m (dsOf st) = true := lts_e m _
theorem fw_at {l : List (Int × Int)} {w : Int} (h : exOk l w = true) : ∀ k n : Nat, n + k = l.length → 0 ≤ fw w (l.take n) 0 ∧ ∀ o, l[n]? = some o → 0 ≤ takes o w ∧ takes o w ≤ fw w (l.take n) 0 := by
  intro k
  induction k with
  | zero =>
    intro n hn
    rw [exOk_fw] at h
    simp only [decide_eq_true_eq] at h
    refine ⟨by rw [show l.take n = l by rw [List.take_of_length_le (by omega)]]; omega, fun o ho => ?_⟩
    rw [List.getElem?_eq_none (by omega)] at ho; cases ho
  | succ k ih =>
    intro n hn
    obtain ⟨a, _⟩ := ih (n + 1) (by omega)
    have hlt : n < l.length := by omega
    have e2 : l.take (n + 1) = l.take n ++ [l[n]] := by rw [List.take_add_one]; simp [hlt]
    rw [e2, fw_snoc _ _ _ 0 (Int.le_refl _)] at a
    by_cases c1 : fw w (l.take n) 0 < 0
    · rw [if_pos c1] at a; omega
    rw [if_neg c1] at a
    by_cases c2 : takes l[n] w < 0 ∨ fw w (l.take n) 0 < takes l[n] w
    · rw [if_pos c2] at a; omega
    refine ⟨by omega, fun o ho => ?_⟩
    have : o = l[n] := by rw [List.getElem?_eq_getElem hlt] at ho; cases ho; rfl
    subst this
    omega
theorem step_leaf {row : List V} {o : Int × Int} (st : List V) (h : takes o row.length = 0) : step row o st = leafV o row :: st := by unfold step; rw [if_pos h]
theorem step_un {row : List V} {o : Int × Int} (b : V) (r : List V) (h : takes o row.length = 1) : step row o (b :: r) = unV o b :: r := by unfold step; rw [if_neg (by omega), if_pos h]
theorem step_bin {row : List V} {o : Int × Int} (a b : V) (r : List V) (h : takes o row.length = 2) : step row o (b :: a :: r) = binV o a b :: r := by unfold step; rw [if_neg (by omega), if_neg (by omega)]
theorem fw_le {w : Int} (l : List (Int × Int)) : ∀ h : Int, 0 ≤ h → fw w l h ≤ h + l.length := by
  induction l with
  | nil => intro h _; simp [fw]
  | cons o r ih =>
    intro h h0
    by_cases c : takes o w < 0 ∨ h < takes o w
    · have e : fw w (o :: r) h = -1 := if_pos c
      rw [e]; omega
    · have e : fw w (o :: r) h = fw w r (h + 1 - takes o w) := if_neg c
      have := ih (h + 1 - takes o w) (by omega)
      rw [e, List.length_cons]; omega
theorem drop_at {P : List D} {a b : D} {Q : List D} {n : Nat} (h : P.length = n) : ((P ++ a :: b :: Q).drop n).take 2 = [a, b] := by subst h; simp
theorem set_at {P Q : List D} {a b c d : D} {n : Nat} (h : P.length = n) : (P ++ a :: b :: Q).take n ++ [c, d] ++ (P ++ a :: b :: Q).drop (n + 2) = P ++ c :: d :: Q := by subst h; simp
set_option maxRecDepth 100000 in
set_option maxHeartbeats 4000000 in
theorem ok72 {l : List (Int × Int)} {row : List V} {es fs : List (List E)} (he : es = l.map orow) (hf : fs = row.map vr) (hlen : es.length ≤ 1048576) (hok : exOk l row.length = true) {v : V} (hv : stk l row l.length = [v]) :
    Plain Try.prog 72 [.e (.sl es), .e (.sl fs)] (dv v) := okOf mixed p72 fun A P hA hP => (by
  have hl1 : es.length = l.length := by rw [he]; simp
  have hl2 : fs.length = row.length := by rw [hf]; simp
  cbv
  repeat' first | with_reducible rfl | with_reducible refine And.intro ?_ ?_ | ((with_reducible intro hcc); first | (cases hcc; done) | skip) | ((with_reducible show goC _ _ _ _ _ _ _ _); cbv) | ((with_reducible show goOps _ _ _ _ _); cbv) | ((with_reducible show okWr _ _ = _); rfl) | ((with_reducible refine hA.fin_pl _ _ _ ?_); cbv) | ((with_reducible refine hA.len _ _ _ _ _ fun z hz hb => ?_); cbv) | ((with_reducible refine hA.slen _ _ _ _ _ fun z hz hb => ?_); cbv) | ((with_reducible refine hA.off _ _ _ _ fun b hb => ?_); cbv) | ((with_reducible refine hA.plus _ _ _ fun b hb => ?_); cbv) | ((with_reducible refine hA.rep _ _ _ fun ds m hds hm => ?_); cbv) | ((with_reducible refine hA.app _ _ _ _ _ ⟨?_, fun zs m hzs hm => ?_⟩); rotate_left; cbv) | ((with_reducible refine hA.app0 _ _ _ ⟨?_, fun m hm => ?_⟩); rotate_left; cbv) | ((with_reducible refine hA.slc _ _ _ _ _ ⟨?_, fun zs hzs => ?_⟩); rotate_left; cbv) | ((with_reducible refine hA.st _ _ _ _ _ ⟨?_, fun ds hds => ?_⟩); rotate_left; cbv) | ((with_reducible refine hA.alt _ _ (Or.inl ?_)); cbv) | ((with_reducible refine hA.appv _ _ _ _ _ _ ⟨?_, fun bb m ds hbb hm hds => ?_⟩); rotate_left; cbv) | ((with_reducible refine hA.vsl _ _ _ _ ⟨?_, fun m hm => ?_⟩); rotate_left; cbv) | ((with_reducible refine hA.vcut _ _ _ _ ⟨?_, fun cs hcs => ?_⟩); rotate_left; cbv) | ((with_reducible refine hA.appw _ _ _ _ _ _ _ ⟨?_, fun bb m ds hbb hm hds => ?_⟩); rotate_left; cbv) | ((with_reducible refine hA.six _ _ _ fun z6 c hz6 hc hc2 => ?_); cbv) | ((with_reducible refine hA.ssl _ _ _ _ ⟨?_, fun sl hsl => ?_⟩); rotate_left; cbv) | ((with_reducible refine hA.sapp _ _ _ ⟨?_, fun sl hsl => ?_⟩); rotate_left; cbv) | ((with_reducible refine hA.s2b _ _ fun es hes => ?_); cbv) | ((with_reducible refine hA.gb0 true _ ?_); cbv) | ((with_reducible refine hA.gb0 false _ ?_); cbv) | ((with_reducible refine hA.gb _ _ fun vb hvb => ?_); cbv) | ((with_reducible refine hA.mget _ _ _ _ ⟨fun mv hmv => ?_, fun hmv => ?_⟩) <;> cbv) | ((with_reducible refine hA.mset _ _ _ _ fun ml hml => ?_); cbv) | (simp only [hA.natLit, hA.natOf, hA.natCast]; cbv)
  all_goals try simp only [hA.add, hA.sub, hA.mul, hA.neg, hA.div, hA.mod, hA.mn, hA.mx, hA.eq, hA.lt, hA.le, hA.nat, hA.R, hA.lep, hA.ltp, hA.seq, inR, n_cast, Int.ofNat_eq_natCast, Option.getD_some, Option.getD_none] at *
  refine hA.loopI (fun n s => ∃ (i : Int) (st : List V) (m : Nat) (b : Bool) (ds : List D), 0 ≤ i ∧ n + i = es.length ∧ st = stk l row i.toNat ∧ m = st.length ∧ ds = dsOf st ∧
      s = ⟨[(12, .int i), (11, .int z), (10, .e (.sl es)), (5, .vec 1 m 2), (4, .ref 0 0), (1, .e (.sl fs))], [.box [.bool false, .int 0], .vec b 2 ds]⟩) es.length _
    ((Weak.zvec 5 2 rfl).trans (Weak.keep (env' := [(12, .int 0), (11, .int z), (10, .e (.sl es)), (5, .vec 1 0 2), (4, .ref 0 0), (1, .e (.sl fs))]) ⟨rfl, rfl, rfl, rfl, rfl, rfl, trivial⟩))
    ⟨0, [], 0, false, [], by omega, by omega, rfl, rfl, rfl, rfl⟩ ?_
  rintro n s K ⟨i, st, m0, b0, ds0, h0, h1, hst, hm0, hds0, rfl⟩ hK
  by_cases hin : (0 : Int) ≤ i ∧ i < es.length
  · obtain ⟨⟨k, x⟩, e1, q1⟩ := row_op he hin
    obtain ⟨g1, g2⟩ := fw_at hok (l.length - i.toNat) i.toNat (by omega)
    obtain ⟨g3, g4⟩ := stk_ok l row i.toNat (by omega) g1
    have g5 := g2 _ q1
    rw [← g4] at g5
    have tl := takes_le (k, x) row.length
    have hnext : stk l row (i + 1).toNat = step row (k, x) st := by
      have : (i + 1).toNat = i.toNat + 1 := by omega
      rw [this, stk, hst]
      congr 1
      simp [List.getD, q1]
    have hlst : st.length ≤ 1048576 := by
      have := fw_le (w := row.length) (l.take i.toNat) 0 (Int.le_refl _)
      rw [List.length_take] at this
      rw [← hst] at g4
      omega
    have hd0 := dsOf_len st
    rw [← hds0, ← hm0] at hd0
    have hK2 : ∀ (st' : List V) (m' : Nat) (b' : Bool) (env : List (Nat × D)) (hp : List O) (j : Nat), st' = step row (k, x) st → m' = st'.length → subW [(12, .int (i + 1)), (11, .int z), (10, .e (.sl es)), (5, .vec j m' 2), (4, .ref 0 0), (1, .e (.sl fs))] env →
        hpF hp 0 = .box [.bool false, .int 0] → hpF hp j = .vec b' 2 (dsOf st') → (0 == j) = false → K ⟨env, hp⟩ := fun st' m' b' env hp j a1 a2 a3 a4 a5 a6 =>
      hK _ (n - 1) _ (by omega) (Weak.ren (l0 := []) [0, j] (fun t => [(12, .int (i + 1)), (11, .int z), (10, .e (.sl es)), (5, .vec (t 1) m' 2), (4, .ref (t 0) 0), (1, .e (.sl fs))])
        (fun t => [.box [.bool false, .int 0], .vec b' 2 (dsOf st')]) (by simp [ndB, firstB]; simpa using a6) a3 ⟨a4, a5, trivial⟩ ⟨fun t => rfl, rfl, fun t => by simp [O.ren, dsOf_ren, rens, D.ren], by simp [O.lt, dsOf_lt, lts, D.lt]⟩)
        ⟨i + 1, st', m', b', _, by omega, by omega, by rw [hnext]; exact a1, a2, rfl, rfl⟩
    rw [← hst] at g4 g5
    clear hK g2 hnext
    have hkk : takes (k, x) row.length = 0 ∨ takes (k, x) row.length = 1 ∨ takes (k, x) row.length = 2 := by omega
    rcases hkk with ht | ht | ht
    · rcases takes0 ht with rfl | ⟨rfl, rfl⟩ | ⟨rfl, i0, i1⟩
      · have hk : ∀ m : Int, A.eq 1 m = decide (1 = m) := hA.eq 1
        cbv
        repeat' first | with_reducible rfl | (simp only [hk]; simp only [Int.reduceEq, Int.reduceLT, decide_true, decide_false, Bool.false_eq_true, Bool.true_eq_false, Bool.not_true, Bool.not_false, false_implies, true_implies, forall_const, and_true, true_and, and_self, reduceCtorEq]; try cbv) | with_reducible refine And.intro ?_ ?_ | ((with_reducible intro hcc); first | (cases hcc; done) | skip) | ((with_reducible show goC _ _ _ _ _ _ _ _); cbv) | ((with_reducible show goOps _ _ _ _ _); cbv) | ((with_reducible show okWr _ _ = _); rfl) | ((with_reducible refine hA.row es _ _ ⟨hin, fun row hrow => ?_⟩); rw [e1] at hrow; subst hrow; cbv) | ((with_reducible refine hA.fin_pl _ _ _ ?_); cbv) | ((with_reducible refine hA.len _ _ _ _ _ fun z hz hb => ?_); cbv) | ((with_reducible refine hA.slen _ _ _ _ _ fun z hz hb => ?_); cbv) | ((with_reducible refine hA.off _ _ _ _ fun b hb => ?_); cbv) | ((with_reducible refine hA.plus _ _ _ fun b hb => ?_); cbv) | ((with_reducible refine hA.rep _ _ _ fun ds m hds hm => ?_); cbv) | ((with_reducible refine hA.app _ _ _ _ _ ⟨?_, fun zs m hzs hm => ?_⟩); rotate_left; cbv) | ((with_reducible refine hA.app0 _ _ _ ⟨?_, fun m hm => ?_⟩); rotate_left; cbv) | ((with_reducible refine hA.slc _ _ _ _ _ ⟨?_, fun zs hzs => ?_⟩); rotate_left; cbv) | ((with_reducible refine hA.st _ _ _ _ _ ⟨?_, fun ds hds => ?_⟩); rotate_left; cbv) | ((with_reducible refine hA.alt _ _ (Or.inl ?_)); cbv) | ((with_reducible refine hA.appv _ _ _ _ _ _ ⟨?_, fun bb m ds hbb hm hds => ?_⟩); rotate_left; cbv) | ((with_reducible refine hA.vsl _ _ _ _ ⟨?_, fun m hm => ?_⟩); rotate_left; cbv) | ((with_reducible refine hA.vcut _ _ _ _ ⟨?_, fun cs hcs => ?_⟩); rotate_left; cbv) | ((with_reducible refine hA.appw _ _ _ _ _ _ _ ⟨?_, fun bb m ds hbb hm hds => ?_⟩); rotate_left; cbv) | ((with_reducible refine hA.six _ _ _ fun z6 c hz6 hc hc2 => ?_); cbv) | ((with_reducible refine hA.ssl _ _ _ _ ⟨?_, fun sl hsl => ?_⟩); rotate_left; cbv) | ((with_reducible refine hA.sapp _ _ _ ⟨?_, fun sl hsl => ?_⟩); rotate_left; cbv) | ((with_reducible refine hA.s2b _ _ fun es hes => ?_); cbv) | ((with_reducible refine hA.gb0 true _ ?_); cbv) | ((with_reducible refine hA.gb0 false _ ?_); cbv) | ((with_reducible refine hA.gb _ _ fun vb hvb => ?_); cbv) | ((with_reducible refine hA.mget _ _ _ _ ⟨fun mv hmv => ?_, fun hmv => ?_⟩) <;> cbv) | ((with_reducible refine hA.mset _ _ _ _ fun ml hml => ?_); cbv) | (simp only [hA.natLit, hA.natOf, hA.natCast]; cbv)
        all_goals try simp only [hA.add, hA.sub, hA.mul, hA.neg, hA.div, hA.mod, hA.mn, hA.mx, hA.eq, hA.lt, hA.le, hA.nat, hA.R, hA.lep, hA.ltp, hA.seq, inR, n_cast, Int.ofNat_eq_natCast, Option.getD_some, Option.getD_none] at *
        all_goals first
          | (exact hK2 ((false, x) :: st) m bb _ _ 4 (by rw [step_leaf _ ht]; rfl) (by simp [hm, hm0]) ⟨.inl rfl, .inl rfl, .inl rfl, .inl rfl, .inl rfl, .inl rfl, trivial⟩ rfl (by rw [dsOf_cons, ← hds0]; show O.vec bb 2 ds = _; rw [hds, List.take_of_length_le (by omega)]; rfl) rfl)
          | omega
          | (exact ⟨rfl, trivial⟩)
          | (simp only [List.length_cons, List.length_nil]; omega)
          | (clear hK2; grind)
          | (trace_state; fail)
      · have hk : ∀ m : Int, A.eq 2 m = decide (2 = m) := hA.eq 2
        cbv
        repeat' first | with_reducible rfl | (simp only [hk]; simp only [Int.reduceEq, Int.reduceLT, decide_true, decide_false, Bool.false_eq_true, Bool.true_eq_false, Bool.not_true, Bool.not_false, false_implies, true_implies, forall_const, and_true, true_and, and_self, reduceCtorEq]; try cbv) | with_reducible refine And.intro ?_ ?_ | ((with_reducible intro hcc); first | (cases hcc; done) | skip) | ((with_reducible show goC _ _ _ _ _ _ _ _); cbv) | ((with_reducible show goOps _ _ _ _ _); cbv) | ((with_reducible show okWr _ _ = _); rfl) | ((with_reducible refine hA.row es _ _ ⟨hin, fun row hrow => ?_⟩); rw [e1] at hrow; subst hrow; cbv) | ((with_reducible refine hA.fin_pl _ _ _ ?_); cbv) | ((with_reducible refine hA.len _ _ _ _ _ fun z hz hb => ?_); cbv) | ((with_reducible refine hA.slen _ _ _ _ _ fun z hz hb => ?_); cbv) | ((with_reducible refine hA.off _ _ _ _ fun b hb => ?_); cbv) | ((with_reducible refine hA.plus _ _ _ fun b hb => ?_); cbv) | ((with_reducible refine hA.rep _ _ _ fun ds m hds hm => ?_); cbv) | ((with_reducible refine hA.app _ _ _ _ _ ⟨?_, fun zs m hzs hm => ?_⟩); rotate_left; cbv) | ((with_reducible refine hA.app0 _ _ _ ⟨?_, fun m hm => ?_⟩); rotate_left; cbv) | ((with_reducible refine hA.slc _ _ _ _ _ ⟨?_, fun zs hzs => ?_⟩); rotate_left; cbv) | ((with_reducible refine hA.st _ _ _ _ _ ⟨?_, fun ds hds => ?_⟩); rotate_left; cbv) | ((with_reducible refine hA.alt _ _ (Or.inl ?_)); cbv) | ((with_reducible refine hA.appv _ _ _ _ _ _ ⟨?_, fun bb m ds hbb hm hds => ?_⟩); rotate_left; cbv) | ((with_reducible refine hA.vsl _ _ _ _ ⟨?_, fun m hm => ?_⟩); rotate_left; cbv) | ((with_reducible refine hA.vcut _ _ _ _ ⟨?_, fun cs hcs => ?_⟩); rotate_left; cbv) | ((with_reducible refine hA.appw _ _ _ _ _ _ _ ⟨?_, fun bb m ds hbb hm hds => ?_⟩); rotate_left; cbv) | ((with_reducible refine hA.six _ _ _ fun z6 c hz6 hc hc2 => ?_); cbv) | ((with_reducible refine hA.ssl _ _ _ _ ⟨?_, fun sl hsl => ?_⟩); rotate_left; cbv) | ((with_reducible refine hA.sapp _ _ _ ⟨?_, fun sl hsl => ?_⟩); rotate_left; cbv) | ((with_reducible refine hA.s2b _ _ fun es hes => ?_); cbv) | ((with_reducible refine hA.gb0 true _ ?_); cbv) | ((with_reducible refine hA.gb0 false _ ?_); cbv) | ((with_reducible refine hA.gb _ _ fun vb hvb => ?_); cbv) | ((with_reducible refine hA.mget _ _ _ _ ⟨fun mv hmv => ?_, fun hmv => ?_⟩) <;> cbv) | ((with_reducible refine hA.mset _ _ _ _ fun ml hml => ?_); cbv) | (simp only [hA.natLit, hA.natOf, hA.natCast]; cbv)
        all_goals try simp only [hA.add, hA.sub, hA.mul, hA.neg, hA.div, hA.mod, hA.mn, hA.mx, hA.eq, hA.lt, hA.le, hA.nat, hA.R, hA.lep, hA.ltp, hA.seq, inR, n_cast, Int.ofNat_eq_natCast, Option.getD_some, Option.getD_none] at *
        all_goals first
          | (exact hK2 ((true, 0) :: st) m bb _ _ 4 (by rw [step_leaf _ ht]; rfl) (by simp [hm, hm0]) ⟨.inl rfl, .inl rfl, .inl rfl, .inl rfl, .inl rfl, .inl rfl, trivial⟩ rfl (by rw [dsOf_cons, ← hds0]; show O.vec bb 2 ds = _; rw [hds, List.take_of_length_le (by omega)]; rfl) rfl)
          | omega
          | (exact ⟨rfl, trivial⟩)
          | (simp only [List.length_cons, List.length_nil]; omega)
          | (clear hK2; grind)
          | (trace_state; fail)
      · have hk : ∀ m : Int, A.eq 3 m = decide (3 = m) := hA.eq 3
        have hin2 : (0 : Int) ≤ x ∧ x < fs.length := by simp only at i0 i1; omega
        obtain ⟨⟨b, y⟩, e2, q2⟩ := row_val hf hin2
        have hr : leafV (3, x) row = clean (b, y) := by simp [leafV, q2]
        obtain ⟨⟨r1, r2⟩, hr2⟩ : ∃ r, r = clean (b, y) := ⟨_, rfl⟩
        have h96 := ok96 b y
        rw [← hr2] at h96 hr
        cbv
        repeat' first | with_reducible rfl | (simp only [hk]; simp only [Int.reduceEq, Int.reduceLT, decide_true, decide_false, Bool.false_eq_true, Bool.true_eq_false, Bool.not_true, Bool.not_false, false_implies, true_implies, forall_const, and_true, true_and, and_self, reduceCtorEq]; try cbv) | with_reducible refine And.intro ?_ ?_ | ((with_reducible intro hcc); first | (cases hcc; done) | skip) | ((with_reducible show goC _ _ _ _ _ _ _ _); cbv) | ((with_reducible show goOps _ _ _ _ _); cbv) | ((with_reducible show okWr _ _ = _); rfl) | ((with_reducible refine hA.row es _ _ ⟨hin, fun row hrow => ?_⟩); rw [e1] at hrow; subst hrow; cbv) | ((with_reducible refine hA.row fs _ _ ⟨hin2, fun row hrow => ?_⟩); rw [e2] at hrow; subst hrow; cbv) | ((with_reducible refine callK_eq hA hP ?_ ?_ ?_ (Wks.refl _) (fun _ _ => h96)); exact rfl; exact rfl; cbv) | ((with_reducible refine hA.fin_pl _ _ _ ?_); cbv) | ((with_reducible refine hA.len _ _ _ _ _ fun z hz hb => ?_); cbv) | ((with_reducible refine hA.slen _ _ _ _ _ fun z hz hb => ?_); cbv) | ((with_reducible refine hA.off _ _ _ _ fun b hb => ?_); cbv) | ((with_reducible refine hA.plus _ _ _ fun b hb => ?_); cbv) | ((with_reducible refine hA.rep _ _ _ fun ds m hds hm => ?_); cbv) | ((with_reducible refine hA.app _ _ _ _ _ ⟨?_, fun zs m hzs hm => ?_⟩); rotate_left; cbv) | ((with_reducible refine hA.app0 _ _ _ ⟨?_, fun m hm => ?_⟩); rotate_left; cbv) | ((with_reducible refine hA.slc _ _ _ _ _ ⟨?_, fun zs hzs => ?_⟩); rotate_left; cbv) | ((with_reducible refine hA.st _ _ _ _ _ ⟨?_, fun ds hds => ?_⟩); rotate_left; cbv) | ((with_reducible refine hA.alt _ _ (Or.inl ?_)); cbv) | ((with_reducible refine hA.appv _ _ _ _ _ _ ⟨?_, fun bb m ds hbb hm hds => ?_⟩); rotate_left; cbv) | ((with_reducible refine hA.vsl _ _ _ _ ⟨?_, fun m hm => ?_⟩); rotate_left; cbv) | ((with_reducible refine hA.vcut _ _ _ _ ⟨?_, fun cs hcs => ?_⟩); rotate_left; cbv) | ((with_reducible refine hA.appw _ _ _ _ _ _ _ ⟨?_, fun bb m ds hbb hm hds => ?_⟩); rotate_left; cbv) | ((with_reducible refine hA.six _ _ _ fun z6 c hz6 hc hc2 => ?_); cbv) | ((with_reducible refine hA.ssl _ _ _ _ ⟨?_, fun sl hsl => ?_⟩); rotate_left; cbv) | ((with_reducible refine hA.sapp _ _ _ ⟨?_, fun sl hsl => ?_⟩); rotate_left; cbv) | ((with_reducible refine hA.s2b _ _ fun es hes => ?_); cbv) | ((with_reducible refine hA.gb0 true _ ?_); cbv) | ((with_reducible refine hA.gb0 false _ ?_); cbv) | ((with_reducible refine hA.gb _ _ fun vb hvb => ?_); cbv) | ((with_reducible refine hA.mget _ _ _ _ ⟨fun mv hmv => ?_, fun hmv => ?_⟩) <;> cbv) | ((with_reducible refine hA.mset _ _ _ _ fun ml hml => ?_); cbv) | (simp only [hA.natLit, hA.natOf, hA.natCast]; cbv)
        all_goals try simp only [hA.add, hA.sub, hA.mul, hA.neg, hA.div, hA.mod, hA.mn, hA.mx, hA.eq, hA.lt, hA.le, hA.nat, hA.R, hA.lep, hA.ltp, hA.seq, inR, n_cast, Int.ofNat_eq_natCast, Option.getD_some, Option.getD_none] at *
        all_goals first
          | (exact hK2 ((r1, r2) :: st) m bb _ _ 4 (by rw [step_leaf _ ht, hr]) (by simp [hm, hm0]) ⟨.inl rfl, .inl rfl, .inl rfl, .inl rfl, .inl rfl, .inl rfl, trivial⟩ rfl (by rw [dsOf_cons, ← hds0]; show O.vec bb 2 ds = _; rw [hds, List.take_of_length_le (by omega)]; rfl) rfl)
          | omega
          | (exact ⟨rfl, trivial⟩)
          | (simp only [List.length_cons, List.length_nil]; omega)
          | (clear hK2; grind)
          | (trace_state; fail)
    · obtain ⟨⟨pb, y⟩, r, rfl⟩ : ∃ b r, st = b :: r := by
        cases st with
        | nil => simp at g5; omega
        | cons b r => exact ⟨b, r, rfl⟩
      obtain ⟨Q, hQ⟩ : ∃ Q, Q = dsOf r := ⟨_, rfl⟩
      have hQl := dsOf_len r
      rw [← hQ] at hQl
      have hds1 : ds0 = Q ++ D.bool pb :: D.int y :: [] := by rw [hds0, dsOf_cons, hQ]
      have hm1 : m0 = r.length + 1 := by rw [hm0]; rfl
      rcases takes1 ht with rfl | rfl
      · have hk : ∀ m : Int, A.eq 7 m = decide (7 = m) := hA.eq 7
        have h17 := ok17 pb y
        obtain ⟨u, hu⟩ : ∃ u : Int, u = if pb = false ∧ y = 0 then 1 else 0 := ⟨_, rfl⟩
        rw [← hu] at h17
        cbv
        repeat' first | with_reducible rfl | (simp only [hk]; simp only [Int.reduceEq, Int.reduceLT, decide_true, decide_false, Bool.false_eq_true, Bool.true_eq_false, Bool.not_true, Bool.not_false, false_implies, true_implies, forall_const, and_true, true_and, and_self, reduceCtorEq]; try cbv) | with_reducible refine And.intro ?_ ?_ | ((with_reducible intro hcc); first | (cases hcc; done) | skip) | ((with_reducible show goC _ _ _ _ _ _ _ _); cbv) | ((with_reducible show goOps _ _ _ _ _); cbv) | ((with_reducible show okWr _ _ = _); rfl) | ((with_reducible refine hA.row es _ _ ⟨hin, fun row hrow => ?_⟩); rw [e1] at hrow; subst hrow; cbv) | ((with_reducible refine hA.ld ds0 _ _ _ ⟨?_, fun cs hcs => ?_⟩); rotate_left; (have e5 : cs = [D.bool pb, D.int y] := (by simp only [hA.sub, Int.ofNat_eq_natCast] at *; rw [hcs, hds1]; exact drop_at (by omega))); subst e5; cbv) | ((with_reducible refine callK_eq hA hP ?_ ?_ ?_ (Wks.refl _) (fun _ _ => h17)); exact rfl; exact rfl; cbv) | ((with_reducible refine hA.fin_pl _ _ _ ?_); cbv) | ((with_reducible refine hA.len _ _ _ _ _ fun z hz hb => ?_); cbv) | ((with_reducible refine hA.slen _ _ _ _ _ fun z hz hb => ?_); cbv) | ((with_reducible refine hA.off _ _ _ _ fun b hb => ?_); cbv) | ((with_reducible refine hA.plus _ _ _ fun b hb => ?_); cbv) | ((with_reducible refine hA.rep _ _ _ fun ds m hds hm => ?_); cbv) | ((with_reducible refine hA.app _ _ _ _ _ ⟨?_, fun zs m hzs hm => ?_⟩); rotate_left; cbv) | ((with_reducible refine hA.app0 _ _ _ ⟨?_, fun m hm => ?_⟩); rotate_left; cbv) | ((with_reducible refine hA.slc _ _ _ _ _ ⟨?_, fun zs hzs => ?_⟩); rotate_left; cbv) | ((with_reducible refine hA.st _ _ _ _ _ ⟨?_, fun ds hds => ?_⟩); rotate_left; cbv) | ((with_reducible refine hA.alt _ _ (Or.inl ?_)); cbv) | ((with_reducible refine hA.appv _ _ _ _ _ _ ⟨?_, fun bb m ds hbb hm hds => ?_⟩); rotate_left; cbv) | ((with_reducible refine hA.vsl _ _ _ _ ⟨?_, fun m hm => ?_⟩); rotate_left; cbv) | ((with_reducible refine hA.vcut _ _ _ _ ⟨?_, fun cs hcs => ?_⟩); rotate_left; cbv) | ((with_reducible refine hA.appw _ _ _ _ _ _ _ ⟨?_, fun bb m ds hbb hm hds => ?_⟩); rotate_left; cbv) | ((with_reducible refine hA.six _ _ _ fun z6 c hz6 hc hc2 => ?_); cbv) | ((with_reducible refine hA.ssl _ _ _ _ ⟨?_, fun sl hsl => ?_⟩); rotate_left; cbv) | ((with_reducible refine hA.sapp _ _ _ ⟨?_, fun sl hsl => ?_⟩); rotate_left; cbv) | ((with_reducible refine hA.s2b _ _ fun es hes => ?_); cbv) | ((with_reducible refine hA.gb0 true _ ?_); cbv) | ((with_reducible refine hA.gb0 false _ ?_); cbv) | ((with_reducible refine hA.gb _ _ fun vb hvb => ?_); cbv) | ((with_reducible refine hA.mget _ _ _ _ ⟨fun mv hmv => ?_, fun hmv => ?_⟩) <;> cbv) | ((with_reducible refine hA.mset _ _ _ _ fun ml hml => ?_); cbv) | (simp only [hA.natLit, hA.natOf, hA.natCast]; cbv)
        all_goals try simp only [hA.add, hA.sub, hA.mul, hA.neg, hA.div, hA.mod, hA.mn, hA.mx, hA.eq, hA.lt, hA.le, hA.nat, hA.R, hA.lep, hA.ltp, hA.seq, inR, n_cast, Int.ofNat_eq_natCast, Option.getD_some, Option.getD_none] at *
        all_goals first
          | (refine hK2 ((pb, u) :: r) m0 b0 _ _ 1 (by rw [step_un _ _ ht]; show _ = (pb, if pb = false ∧ y = 0 then 1 else 0) :: r; rw [hu]) (by rw [hm1]; rfl) ⟨.inl rfl, .inl rfl, .inl rfl, .inl rfl, .inl rfl, .inl rfl, trivial⟩ rfl ?_ rfl
             show O.vec b0 2 ds = _
             rw [dsOf_cons, ← hQ, hds, hds1]
             congr 1
             exact set_at (by omega))
          | omega
          | (exact ⟨rfl, trivial⟩)
          | (simp only [List.length_cons, List.length_nil]; omega)
          | (clear hK2; grind)
          | (trace_state; fail)
      · have hk : ∀ m : Int, A.eq 8 m = decide (8 = m) := hA.eq 8
        obtain ⟨u, hu⟩ : ∃ u : Int, u = if pb then 1 else 0 := ⟨_, rfl⟩
        have h60 := ok60 pb
        rw [← hu] at h60
        cbv
        repeat' first | with_reducible rfl | (simp only [hk]; simp only [Int.reduceEq, Int.reduceLT, decide_true, decide_false, Bool.false_eq_true, Bool.true_eq_false, Bool.not_true, Bool.not_false, false_implies, true_implies, forall_const, and_true, true_and, and_self, reduceCtorEq]; try cbv) | with_reducible refine And.intro ?_ ?_ | ((with_reducible intro hcc); first | (cases hcc; done) | skip) | ((with_reducible show goC _ _ _ _ _ _ _ _); cbv) | ((with_reducible show goOps _ _ _ _ _); cbv) | ((with_reducible show okWr _ _ = _); rfl) | ((with_reducible refine hA.row es _ _ ⟨hin, fun row hrow => ?_⟩); rw [e1] at hrow; subst hrow; cbv) | ((with_reducible refine hA.ld1 ds0 _ _ ⟨?_, fun c hc => ?_⟩); rotate_left; (have e5 : c = D.bool pb := (by simp only [hA.sub, Int.ofNat_eq_natCast] at *; rw [hc, hds1, show b = Q.length by omega]; simp)); subst e5; cbv) | ((with_reducible refine callK_eq hA hP ?_ ?_ ?_ (Wks.refl _) (fun _ _ => h60)); exact rfl; exact rfl; cbv) | ((with_reducible refine hA.fin_pl _ _ _ ?_); cbv) | ((with_reducible refine hA.len _ _ _ _ _ fun z hz hb => ?_); cbv) | ((with_reducible refine hA.slen _ _ _ _ _ fun z hz hb => ?_); cbv) | ((with_reducible refine hA.off _ _ _ _ fun b hb => ?_); cbv) | ((with_reducible refine hA.plus _ _ _ fun b hb => ?_); cbv) | ((with_reducible refine hA.rep _ _ _ fun ds m hds hm => ?_); cbv) | ((with_reducible refine hA.app _ _ _ _ _ ⟨?_, fun zs m hzs hm => ?_⟩); rotate_left; cbv) | ((with_reducible refine hA.app0 _ _ _ ⟨?_, fun m hm => ?_⟩); rotate_left; cbv) | ((with_reducible refine hA.slc _ _ _ _ _ ⟨?_, fun zs hzs => ?_⟩); rotate_left; cbv) | ((with_reducible refine hA.st _ _ _ _ _ ⟨?_, fun ds hds => ?_⟩); rotate_left; cbv) | ((with_reducible refine hA.alt _ _ (Or.inl ?_)); cbv) | ((with_reducible refine hA.appv _ _ _ _ _ _ ⟨?_, fun bb m ds hbb hm hds => ?_⟩); rotate_left; cbv) | ((with_reducible refine hA.vsl _ _ _ _ ⟨?_, fun m hm => ?_⟩); rotate_left; cbv) | ((with_reducible refine hA.vcut _ _ _ _ ⟨?_, fun cs hcs => ?_⟩); rotate_left; cbv) | ((with_reducible refine hA.appw _ _ _ _ _ _ _ ⟨?_, fun bb m ds hbb hm hds => ?_⟩); rotate_left; cbv) | ((with_reducible refine hA.six _ _ _ fun z6 c hz6 hc hc2 => ?_); cbv) | ((with_reducible refine hA.ssl _ _ _ _ ⟨?_, fun sl hsl => ?_⟩); rotate_left; cbv) | ((with_reducible refine hA.sapp _ _ _ ⟨?_, fun sl hsl => ?_⟩); rotate_left; cbv) | ((with_reducible refine hA.s2b _ _ fun es hes => ?_); cbv) | ((with_reducible refine hA.gb0 true _ ?_); cbv) | ((with_reducible refine hA.gb0 false _ ?_); cbv) | ((with_reducible refine hA.gb _ _ fun vb hvb => ?_); cbv) | ((with_reducible refine hA.mget _ _ _ _ ⟨fun mv hmv => ?_, fun hmv => ?_⟩) <;> cbv) | ((with_reducible refine hA.mset _ _ _ _ fun ml hml => ?_); cbv) | (simp only [hA.natLit, hA.natOf, hA.natCast]; cbv)
        all_goals try simp only [hA.add, hA.sub, hA.mul, hA.neg, hA.div, hA.mod, hA.mn, hA.mx, hA.eq, hA.lt, hA.le, hA.nat, hA.R, hA.lep, hA.ltp, hA.seq, inR, n_cast, Int.ofNat_eq_natCast, Option.getD_some, Option.getD_none] at *
        all_goals first
          | (refine hK2 ((false, u) :: r) m0 b0 _ _ 1 (by rw [step_un _ _ ht]; show _ = (false, if pb then 1 else 0) :: r; rw [hu]) (by rw [hm1]; rfl) ⟨.inl rfl, .inl rfl, .inl rfl, .inl rfl, .inl rfl, .inl rfl, trivial⟩ rfl ?_ rfl
             show O.vec b0 2 ds = _
             rw [dsOf_cons, ← hQ, hds, hds1]
             congr 1
             exact set_at (by omega))
          | omega
          | (exact ⟨rfl, trivial⟩)
          | (simp only [List.length_cons, List.length_nil]; omega)
          | (clear hK2; grind)
          | (trace_state; fail)
    · obtain ⟨⟨pb, y⟩, ⟨pa, y'⟩, r, rfl⟩ : ∃ b a r, st = b :: a :: r := by
        cases st with
        | nil => simp at g5; omega
        | cons b r =>
          cases r with
          | nil => simp at g5; omega
          | cons a r => exact ⟨b, a, r, rfl⟩
      obtain ⟨Q, hQ⟩ : ∃ Q, Q = dsOf r := ⟨_, rfl⟩
      have hQl := dsOf_len r
      rw [← hQ] at hQl
      have hds1 : ds0 = Q ++ D.bool pa :: D.int y' :: [D.bool pb, D.int y] := by rw [hds0, dsOf_cons, dsOf_cons, hQ]; simp
      have hds2 : ds0 = (Q ++ [D.bool pa, D.int y']) ++ D.bool pb :: D.int y :: [] := by rw [hds1]; simp
      have hm1 : m0 = r.length + 2 := by rw [hm0]; rfl
      obtain ⟨⟨u, u'⟩, hu⟩ : ∃ u, u = binV (k, x) (pa, y') (pb, y) := ⟨_, rfl⟩
      rcases takes2 ht with rfl | rfl | rfl
      · have hk : ∀ m : Int, A.eq 4 m = decide (4 = m) := hA.eq 4
        have h20 : Plain Try.prog 20 [.int x, dVal pa y', dVal pb y] (dVal u u') := by
          have q := ok20 x pa y' pb y
          have : (u, u') = triV (cm x pa y' pb y) := hu
          cases this; exact q
        cbv
        repeat' first | with_reducible rfl | (simp only [hk]; simp only [Int.reduceEq, Int.reduceLT, decide_true, decide_false, Bool.false_eq_true, Bool.true_eq_false, Bool.not_true, Bool.not_false, false_implies, true_implies, forall_const, and_true, true_and, and_self, reduceCtorEq]; try cbv) | with_reducible refine And.intro ?_ ?_ | ((with_reducible intro hcc); first | (cases hcc; done) | skip) | ((with_reducible show goC _ _ _ _ _ _ _ _); cbv) | ((with_reducible show goOps _ _ _ _ _); cbv) | ((with_reducible show okWr _ _ = _); rfl) | ((with_reducible refine hA.row es _ _ ⟨hin, fun row hrow => ?_⟩); rw [e1] at hrow; subst hrow; cbv) | ((with_reducible refine hA.ld ds0 _ _ _ ⟨?_, fun cs hcs => ?_⟩); rotate_left; (have e5 : cs = [D.bool pa, D.int y'] := (by simp only [hA.sub, Int.ofNat_eq_natCast] at *; rw [hcs, hds1]; exact drop_at (by omega))); subst e5; cbv) | ((with_reducible refine hA.ld ds0 _ _ _ ⟨?_, fun cs hcs => ?_⟩); rotate_left; (have e5 : cs = [D.bool pb, D.int y] := (by simp only [hA.sub, Int.ofNat_eq_natCast] at *; rw [hcs, hds2]; exact drop_at (by rw [List.length_append]; simp; omega))); subst e5; cbv) | ((with_reducible refine callK_eq hA hP ?_ ?_ ?_ (Wks.refl _) (fun _ _ => h20)); exact rfl; exact rfl; cbv) | ((with_reducible refine hA.fin_pl _ _ _ ?_); cbv) | ((with_reducible refine hA.len _ _ _ _ _ fun z hz hb => ?_); cbv) | ((with_reducible refine hA.slen _ _ _ _ _ fun z hz hb => ?_); cbv) | ((with_reducible refine hA.off _ _ _ _ fun b hb => ?_); cbv) | ((with_reducible refine hA.plus _ _ _ fun b hb => ?_); cbv) | ((with_reducible refine hA.rep _ _ _ fun ds m hds hm => ?_); cbv) | ((with_reducible refine hA.app _ _ _ _ _ ⟨?_, fun zs m hzs hm => ?_⟩); rotate_left; cbv) | ((with_reducible refine hA.app0 _ _ _ ⟨?_, fun m hm => ?_⟩); rotate_left; cbv) | ((with_reducible refine hA.slc _ _ _ _ _ ⟨?_, fun zs hzs => ?_⟩); rotate_left; cbv) | ((with_reducible refine hA.st _ _ _ _ _ ⟨?_, fun ds hds => ?_⟩); rotate_left; cbv) | ((with_reducible refine hA.alt _ _ (Or.inl ?_)); cbv) | ((with_reducible refine hA.appv _ _ _ _ _ _ ⟨?_, fun bb m ds hbb hm hds => ?_⟩); rotate_left; cbv) | ((with_reducible refine hA.vsl _ _ _ _ ⟨?_, fun m hm => ?_⟩); rotate_left; cbv) | ((with_reducible refine hA.vcut _ _ _ _ ⟨?_, fun cs hcs => ?_⟩); rotate_left; cbv) | ((with_reducible refine hA.appw _ _ _ _ _ _ _ ⟨?_, fun bb m ds hbb hm hds => ?_⟩); rotate_left; cbv) | ((with_reducible refine hA.six _ _ _ fun z6 c hz6 hc hc2 => ?_); cbv) | ((with_reducible refine hA.ssl _ _ _ _ ⟨?_, fun sl hsl => ?_⟩); rotate_left; cbv) | ((with_reducible refine hA.sapp _ _ _ ⟨?_, fun sl hsl => ?_⟩); rotate_left; cbv) | ((with_reducible refine hA.s2b _ _ fun es hes => ?_); cbv) | ((with_reducible refine hA.gb0 true _ ?_); cbv) | ((with_reducible refine hA.gb0 false _ ?_); cbv) | ((with_reducible refine hA.gb _ _ fun vb hvb => ?_); cbv) | ((with_reducible refine hA.mget _ _ _ _ ⟨fun mv hmv => ?_, fun hmv => ?_⟩) <;> cbv) | ((with_reducible refine hA.mset _ _ _ _ fun ml hml => ?_); cbv) | (simp only [hA.natLit, hA.natOf, hA.natCast]; cbv)
        all_goals try simp only [hA.add, hA.sub, hA.mul, hA.neg, hA.div, hA.mod, hA.mn, hA.mx, hA.eq, hA.lt, hA.le, hA.nat, hA.R, hA.lep, hA.ltp, hA.seq, inR, n_cast, Int.ofNat_eq_natCast, Option.getD_some, Option.getD_none] at *
        all_goals first
          | (refine hK2 ((u, u') :: r) m bb _ _ 4 (by rw [step_bin _ _ _ ht, ← hu]) (by simp only [List.length_cons, List.length_nil] at *; omega) ⟨.inl rfl, .inl rfl, .inl rfl, .inl rfl, .inl rfl, .inl rfl, trivial⟩ rfl ?_ rfl
             show O.vec bb 2 ds = _
             rw [dsOf_cons, ← hQ, hds, hds1]
             congr 1
             have e9 : ∀ (mm : Nat), mm * 2 = Q.length → (Q ++ D.bool pa :: D.int y' :: [D.bool pb, D.int y]).take (mm * 2) = Q := fun mm e => by rw [e]; simp
             rw [e9 _ (by omega)]; rfl)
          | omega
          | (exact ⟨rfl, trivial⟩)
          | (simp only [List.length_cons, List.length_nil]; omega)
          | (clear hK2; grind)
          | (trace_state; fail)
      · have hk : ∀ m : Int, A.eq 5 m = decide (5 = m) := hA.eq 5
        have h20 : Plain Try.prog 22 [dVal pa y', dVal pb y] (dVal u u') := by
          have q := ok22 pa y' pb y
          have : (u, u') = triV (min (tr pa y') (tr pb y)) := hu
          cases this; exact q
        cbv
        repeat' first | with_reducible rfl | (simp only [hk]; simp only [Int.reduceEq, Int.reduceLT, decide_true, decide_false, Bool.false_eq_true, Bool.true_eq_false, Bool.not_true, Bool.not_false, false_implies, true_implies, forall_const, and_true, true_and, and_self, reduceCtorEq]; try cbv) | with_reducible refine And.intro ?_ ?_ | ((with_reducible intro hcc); first | (cases hcc; done) | skip) | ((with_reducible show goC _ _ _ _ _ _ _ _); cbv) | ((with_reducible show goOps _ _ _ _ _); cbv) | ((with_reducible show okWr _ _ = _); rfl) | ((with_reducible refine hA.row es _ _ ⟨hin, fun row hrow => ?_⟩); rw [e1] at hrow; subst hrow; cbv) | ((with_reducible refine hA.ld ds0 _ _ _ ⟨?_, fun cs hcs => ?_⟩); rotate_left; (have e5 : cs = [D.bool pa, D.int y'] := (by simp only [hA.sub, Int.ofNat_eq_natCast] at *; rw [hcs, hds1]; exact drop_at (by omega))); subst e5; cbv) | ((with_reducible refine hA.ld ds0 _ _ _ ⟨?_, fun cs hcs => ?_⟩); rotate_left; (have e5 : cs = [D.bool pb, D.int y] := (by simp only [hA.sub, Int.ofNat_eq_natCast] at *; rw [hcs, hds2]; exact drop_at (by rw [List.length_append]; simp; omega))); subst e5; cbv) | ((with_reducible refine callK_eq hA hP ?_ ?_ ?_ (Wks.refl _) (fun _ _ => h20)); exact rfl; exact rfl; cbv) | ((with_reducible refine hA.fin_pl _ _ _ ?_); cbv) | ((with_reducible refine hA.len _ _ _ _ _ fun z hz hb => ?_); cbv) | ((with_reducible refine hA.slen _ _ _ _ _ fun z hz hb => ?_); cbv) | ((with_reducible refine hA.off _ _ _ _ fun b hb => ?_); cbv) | ((with_reducible refine hA.plus _ _ _ fun b hb => ?_); cbv) | ((with_reducible refine hA.rep _ _ _ fun ds m hds hm => ?_); cbv) | ((with_reducible refine hA.app _ _ _ _ _ ⟨?_, fun zs m hzs hm => ?_⟩); rotate_left; cbv) | ((with_reducible refine hA.app0 _ _ _ ⟨?_, fun m hm => ?_⟩); rotate_left; cbv) | ((with_reducible refine hA.slc _ _ _ _ _ ⟨?_, fun zs hzs => ?_⟩); rotate_left; cbv) | ((with_reducible refine hA.st _ _ _ _ _ ⟨?_, fun ds hds => ?_⟩); rotate_left; cbv) | ((with_reducible refine hA.alt _ _ (Or.inl ?_)); cbv) | ((with_reducible refine hA.appv _ _ _ _ _ _ ⟨?_, fun bb m ds hbb hm hds => ?_⟩); rotate_left; cbv) | ((with_reducible refine hA.vsl _ _ _ _ ⟨?_, fun m hm => ?_⟩); rotate_left; cbv) | ((with_reducible refine hA.vcut _ _ _ _ ⟨?_, fun cs hcs => ?_⟩); rotate_left; cbv) | ((with_reducible refine hA.appw _ _ _ _ _ _ _ ⟨?_, fun bb m ds hbb hm hds => ?_⟩); rotate_left; cbv) | ((with_reducible refine hA.six _ _ _ fun z6 c hz6 hc hc2 => ?_); cbv) | ((with_reducible refine hA.ssl _ _ _ _ ⟨?_, fun sl hsl => ?_⟩); rotate_left; cbv) | ((with_reducible refine hA.sapp _ _ _ ⟨?_, fun sl hsl => ?_⟩); rotate_left; cbv) | ((with_reducible refine hA.s2b _ _ fun es hes => ?_); cbv) | ((with_reducible refine hA.gb0 true _ ?_); cbv) | ((with_reducible refine hA.gb0 false _ ?_); cbv) | ((with_reducible refine hA.gb _ _ fun vb hvb => ?_); cbv) | ((with_reducible refine hA.mget _ _ _ _ ⟨fun mv hmv => ?_, fun hmv => ?_⟩) <;> cbv) | ((with_reducible refine hA.mset _ _ _ _ fun ml hml => ?_); cbv) | (simp only [hA.natLit, hA.natOf, hA.natCast]; cbv)
        all_goals try simp only [hA.add, hA.sub, hA.mul, hA.neg, hA.div, hA.mod, hA.mn, hA.mx, hA.eq, hA.lt, hA.le, hA.nat, hA.R, hA.lep, hA.ltp, hA.seq, inR, n_cast, Int.ofNat_eq_natCast, Option.getD_some, Option.getD_none] at *
        all_goals first
          | (refine hK2 ((u, u') :: r) m bb _ _ 4 (by rw [step_bin _ _ _ ht, ← hu]) (by simp only [List.length_cons, List.length_nil] at *; omega) ⟨.inl rfl, .inl rfl, .inl rfl, .inl rfl, .inl rfl, .inl rfl, trivial⟩ rfl ?_ rfl
             show O.vec bb 2 ds = _
             rw [dsOf_cons, ← hQ, hds, hds1]
             congr 1
             have e9 : ∀ (mm : Nat), mm * 2 = Q.length → (Q ++ D.bool pa :: D.int y' :: [D.bool pb, D.int y]).take (mm * 2) = Q := fun mm e => by rw [e]; simp
             rw [e9 _ (by omega)]; rfl)
          | omega
          | (exact ⟨rfl, trivial⟩)
          | (simp only [List.length_cons, List.length_nil]; omega)
          | (clear hK2; grind)
          | (trace_state; fail)
      · have hk : ∀ m : Int, A.eq 6 m = decide (6 = m) := hA.eq 6
        have h20 : Plain Try.prog 24 [dVal pa y', dVal pb y] (dVal u u') := by
          have q := ok24 pa y' pb y
          have : (u, u') = triV (max (tr pa y') (tr pb y)) := hu
          cases this; exact q
        cbv
        repeat' first | with_reducible rfl | (simp only [hk]; simp only [Int.reduceEq, Int.reduceLT, decide_true, decide_false, Bool.false_eq_true, Bool.true_eq_false, Bool.not_true, Bool.not_false, false_implies, true_implies, forall_const, and_true, true_and, and_self, reduceCtorEq]; try cbv) | with_reducible refine And.intro ?_ ?_ | ((with_reducible intro hcc); first | (cases hcc; done) | skip) | ((with_reducible show goC _ _ _ _ _ _ _ _); cbv) | ((with_reducible show goOps _ _ _ _ _); cbv) | ((with_reducible show okWr _ _ = _); rfl) | ((with_reducible refine hA.row es _ _ ⟨hin, fun row hrow => ?_⟩); rw [e1] at hrow; subst hrow; cbv) | ((with_reducible refine hA.ld ds0 _ _ _ ⟨?_, fun cs hcs => ?_⟩); rotate_left; (have e5 : cs = [D.bool pa, D.int y'] := (by simp only [hA.sub, Int.ofNat_eq_natCast] at *; rw [hcs, hds1]; exact drop_at (by omega))); subst e5; cbv) | ((with_reducible refine hA.ld ds0 _ _ _ ⟨?_, fun cs hcs => ?_⟩); rotate_left; (have e5 : cs = [D.bool pb, D.int y] := (by simp only [hA.sub, Int.ofNat_eq_natCast] at *; rw [hcs, hds2]; exact drop_at (by rw [List.length_append]; simp; omega))); subst e5; cbv) | ((with_reducible refine callK_eq hA hP ?_ ?_ ?_ (Wks.refl _) (fun _ _ => h20)); exact rfl; exact rfl; cbv) | ((with_reducible refine hA.fin_pl _ _ _ ?_); cbv) | ((with_reducible refine hA.len _ _ _ _ _ fun z hz hb => ?_); cbv) | ((with_reducible refine hA.slen _ _ _ _ _ fun z hz hb => ?_); cbv) | ((with_reducible refine hA.off _ _ _ _ fun b hb => ?_); cbv) | ((with_reducible refine hA.plus _ _ _ fun b hb => ?_); cbv) | ((with_reducible refine hA.rep _ _ _ fun ds m hds hm => ?_); cbv) | ((with_reducible refine hA.app _ _ _ _ _ ⟨?_, fun zs m hzs hm => ?_⟩); rotate_left; cbv) | ((with_reducible refine hA.app0 _ _ _ ⟨?_, fun m hm => ?_⟩); rotate_left; cbv) | ((with_reducible refine hA.slc _ _ _ _ _ ⟨?_, fun zs hzs => ?_⟩); rotate_left; cbv) | ((with_reducible refine hA.st _ _ _ _ _ ⟨?_, fun ds hds => ?_⟩); rotate_left; cbv) | ((with_reducible refine hA.alt _ _ (Or.inl ?_)); cbv) | ((with_reducible refine hA.appv _ _ _ _ _ _ ⟨?_, fun bb m ds hbb hm hds => ?_⟩); rotate_left; cbv) | ((with_reducible refine hA.vsl _ _ _ _ ⟨?_, fun m hm => ?_⟩); rotate_left; cbv) | ((with_reducible refine hA.vcut _ _ _ _ ⟨?_, fun cs hcs => ?_⟩); rotate_left; cbv) | ((with_reducible refine hA.appw _ _ _ _ _ _ _ ⟨?_, fun bb m ds hbb hm hds => ?_⟩); rotate_left; cbv) | ((with_reducible refine hA.six _ _ _ fun z6 c hz6 hc hc2 => ?_); cbv) | ((with_reducible refine hA.ssl _ _ _ _ ⟨?_, fun sl hsl => ?_⟩); rotate_left; cbv) | ((with_reducible refine hA.sapp _ _ _ ⟨?_, fun sl hsl => ?_⟩); rotate_left; cbv) | ((with_reducible refine hA.s2b _ _ fun es hes => ?_); cbv) | ((with_reducible refine hA.gb0 true _ ?_); cbv) | ((with_reducible refine hA.gb0 false _ ?_); cbv) | ((with_reducible refine hA.gb _ _ fun vb hvb => ?_); cbv) | ((with_reducible refine hA.mget _ _ _ _ ⟨fun mv hmv => ?_, fun hmv => ?_⟩) <;> cbv) | ((with_reducible refine hA.mset _ _ _ _ fun ml hml => ?_); cbv) | (simp only [hA.natLit, hA.natOf, hA.natCast]; cbv)
        all_goals try simp only [hA.add, hA.sub, hA.mul, hA.neg, hA.div, hA.mod, hA.mn, hA.mx, hA.eq, hA.lt, hA.le, hA.nat, hA.R, hA.lep, hA.ltp, hA.seq, inR, n_cast, Int.ofNat_eq_natCast, Option.getD_some, Option.getD_none] at *
        all_goals first
          | (refine hK2 ((u, u') :: r) m bb _ _ 4 (by rw [step_bin _ _ _ ht, ← hu]) (by simp only [List.length_cons, List.length_nil] at *; omega) ⟨.inl rfl, .inl rfl, .inl rfl, .inl rfl, .inl rfl, .inl rfl, trivial⟩ rfl ?_ rfl
             show O.vec bb 2 ds = _
             rw [dsOf_cons, ← hQ, hds, hds1]
             congr 1
             have e9 : ∀ (mm : Nat), mm * 2 = Q.length → (Q ++ D.bool pa :: D.int y' :: [D.bool pb, D.int y]).take (mm * 2) = Q := fun mm e => by rw [e]; simp
             rw [e9 _ (by omega)]; rfl)
          | omega
          | (exact ⟨rfl, trivial⟩)
          | (simp only [List.length_cons, List.length_nil]; omega)
          | (clear hK2; grind)
          | (trace_state; fail)
  · have hi : i.toNat = l.length := by omega
    rw [hi, hv] at hst
    subst hst
    obtain ⟨v1, v2⟩ := v
    have hds1 : ds0 = [D.bool v1, D.int v2] := hds0
    have hm1 : m0 = 1 := hm0
    clear hK
    cbv
    repeat' first | with_reducible rfl | with_reducible refine And.intro ?_ ?_ | ((with_reducible intro hcc); first | (cases hcc; done) | skip) | ((with_reducible show goC _ _ _ _ _ _ _ _); cbv) | ((with_reducible show goOps _ _ _ _ _); cbv) | ((with_reducible show okWr _ _ = _); rfl) | ((with_reducible refine hA.row0 _ _ _ fun p row => ?_); cbv) | ((with_reducible refine hA.ld ds0 _ _ _ ⟨?_, fun cs hcs => ?_⟩); rotate_left; (have e5 : cs = [D.bool v1, D.int v2] := (by rw [hcs, hds1, hb]; rfl)); subst e5; cbv) | ((with_reducible refine hA.fin_pl _ _ _ ?_); cbv) | ((with_reducible refine hA.len _ _ _ _ _ fun z hz hb => ?_); cbv) | ((with_reducible refine hA.slen _ _ _ _ _ fun z hz hb => ?_); cbv) | ((with_reducible refine hA.off _ _ _ _ fun b hb => ?_); cbv) | ((with_reducible refine hA.plus _ _ _ fun b hb => ?_); cbv) | ((with_reducible refine hA.rep _ _ _ fun ds m hds hm => ?_); cbv) | ((with_reducible refine hA.app _ _ _ _ _ ⟨?_, fun zs m hzs hm => ?_⟩); rotate_left; cbv) | ((with_reducible refine hA.app0 _ _ _ ⟨?_, fun m hm => ?_⟩); rotate_left; cbv) | ((with_reducible refine hA.slc _ _ _ _ _ ⟨?_, fun zs hzs => ?_⟩); rotate_left; cbv) | ((with_reducible refine hA.st _ _ _ _ _ ⟨?_, fun ds hds => ?_⟩); rotate_left; cbv) | ((with_reducible refine hA.alt _ _ (Or.inl ?_)); cbv) | ((with_reducible refine hA.appv _ _ _ _ _ _ ⟨?_, fun bb m ds hbb hm hds => ?_⟩); rotate_left; cbv) | ((with_reducible refine hA.vsl _ _ _ _ ⟨?_, fun m hm => ?_⟩); rotate_left; cbv) | ((with_reducible refine hA.vcut _ _ _ _ ⟨?_, fun cs hcs => ?_⟩); rotate_left; cbv) | ((with_reducible refine hA.appw _ _ _ _ _ _ _ ⟨?_, fun bb m ds hbb hm hds => ?_⟩); rotate_left; cbv) | ((with_reducible refine hA.six _ _ _ fun z6 c hz6 hc hc2 => ?_); cbv) | ((with_reducible refine hA.ssl _ _ _ _ ⟨?_, fun sl hsl => ?_⟩); rotate_left; cbv) | ((with_reducible refine hA.sapp _ _ _ ⟨?_, fun sl hsl => ?_⟩); rotate_left; cbv) | ((with_reducible refine hA.s2b _ _ fun es hes => ?_); cbv) | ((with_reducible refine hA.gb0 true _ ?_); cbv) | ((with_reducible refine hA.gb0 false _ ?_); cbv) | ((with_reducible refine hA.gb _ _ fun vb hvb => ?_); cbv) | ((with_reducible refine hA.mget _ _ _ _ ⟨fun mv hmv => ?_, fun hmv => ?_⟩) <;> cbv) | ((with_reducible refine hA.mset _ _ _ _ fun ml hml => ?_); cbv) | (simp only [hA.natLit, hA.natOf, hA.natCast]; cbv)
    all_goals try simp only [hA.add, hA.sub, hA.mul, hA.neg, hA.div, hA.mod, hA.mn, hA.mx, hA.eq, hA.lt, hA.le, hA.nat, hA.R, hA.lep, hA.ltp, hA.seq, inR, n_cast, Int.ofNat_eq_natCast, Option.getD_some, Option.getD_none] at *
    all_goals first
      | rfl
      | omega
      | (clear hv; grind)
      | (trace_state; fail))
end Go.Proofs.Ytmnhoglkahmlaaa.Ab
