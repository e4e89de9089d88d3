/- Rows of values: alike. -/
import Derived.Test.YtmnhoglkahmlaaaU2
import Derived.Test.YtmnhoglkahmlaaaAb12
set_option linter.unusedSimpArgs false
set_option linter.unusedVariables false
set_option linter.unnecessarySimpa false
set_option linter.constructorNameAsVariable false
namespace Go.Proofs.Ytmnhoglkahmlaaa.Ab
open Go
abbrev vr (p : Bool × Int) : List E := [E.bool p.1, E.int p.2]
theorem row_val {l : List (Bool × Int)} {es : List (List E)} (he : es = l.map vr) {n : Int} (h : 0 ≤ n ∧ n < es.length) : ∃ p, es.getD n.toNat [] = vr p ∧ l[n.toNat]? = some p := by
  subst he
  have hn : n.toNat < l.length := by simp at h; omega
  exact ⟨l[n.toNat], by simp [List.getD, hn], by simp [hn]⟩
set_option maxRecDepth 100000 in
theorem ok29 (l l' : List (Bool × Int)) (es fs : List (List E)) (he : es = l.map vr) (hf : fs = l'.map vr) : Plain Try.prog 29 [.e (.sl es), .e (.sl fs)] (.bool (decide (l = l'))) := okOf mixed p29 fun A P hA hP => (by
  obtain ⟨r, hr⟩ : ∃ r : Bool, r = decide (l = l') := ⟨_, rfl⟩
  rw [← hr]
  have hl1 : es.length = l.length := by rw [he]; simp
  have hl2 : fs.length = l'.length := by rw [hf]; simp
  cbv
  repeat' first | with_reducible rfl | with_reducible refine And.intro ?_ ?_ | ((with_reducible intro hcc); first | (cases hcc; done) | skip) | ((with_reducible show goC _ _ _ _ _ _ _ _); cbv) | ((with_reducible show goOps _ _ _ _ _); cbv) | ((with_reducible show okWr _ _ = _); rfl) | ((with_reducible refine callK_eq hA hP ?_ ?_ ?_ (Wks.refl _) (fun _ _ => ok18 _ _ _ _)); exact rfl; exact rfl; cbv) | ((with_reducible refine hA.fin_pl _ _ _ ?_); cbv) | ((with_reducible refine hA.len _ _ _ _ _ fun z hz hb => ?_); cbv) | ((with_reducible refine hA.slen _ _ _ _ _ fun z hz hb => ?_); cbv) | ((with_reducible refine hA.off _ _ _ _ fun b hb => ?_); cbv) | ((with_reducible refine hA.plus _ _ _ fun b hb => ?_); cbv) | ((with_reducible refine hA.rep _ _ _ fun ds m hds hm => ?_); cbv) | ((with_reducible refine hA.app _ _ _ _ _ ⟨?_, fun zs m hzs hm => ?_⟩); rotate_left; cbv) | ((with_reducible refine hA.app0 _ _ _ ⟨?_, fun m hm => ?_⟩); rotate_left; cbv) | ((with_reducible refine hA.slc _ _ _ _ _ ⟨?_, fun zs hzs => ?_⟩); rotate_left; cbv) | ((with_reducible refine hA.st _ _ _ _ _ ⟨?_, fun ds hds => ?_⟩); rotate_left; cbv) | ((with_reducible refine hA.alt _ _ (Or.inl ?_)); cbv) | ((with_reducible refine hA.appv _ _ _ _ _ _ ⟨?_, fun bb m ds hbb hm hds => ?_⟩); rotate_left; cbv) | ((with_reducible refine hA.vsl _ _ _ _ ⟨?_, fun m hm => ?_⟩); rotate_left; cbv) | ((with_reducible refine hA.vcut _ _ _ _ ⟨?_, fun cs hcs => ?_⟩); rotate_left; cbv) | ((with_reducible refine hA.appw _ _ _ _ _ _ _ ⟨?_, fun bb m ds hbb hm hds => ?_⟩); rotate_left; cbv) | ((with_reducible refine hA.six _ _ _ fun z6 c hz6 hc hc2 => ?_); cbv) | ((with_reducible refine hA.ssl _ _ _ _ ⟨?_, fun sl hsl => ?_⟩); rotate_left; cbv) | ((with_reducible refine hA.sapp _ _ _ ⟨?_, fun sl hsl => ?_⟩); rotate_left; cbv) | ((with_reducible refine hA.s2b _ _ fun es hes => ?_); cbv) | ((with_reducible refine hA.gb0 true _ ?_); cbv) | ((with_reducible refine hA.gb0 false _ ?_); cbv) | ((with_reducible refine hA.gb _ _ fun vb hvb => ?_); cbv) | ((with_reducible refine hA.mget _ _ _ _ ⟨fun mv hmv => ?_, fun hmv => ?_⟩) <;> cbv) | ((with_reducible refine hA.mset _ _ _ _ fun ml hml => ?_); cbv) | (simp only [hA.natLit, hA.natOf, hA.natCast]; cbv)
  all_goals try simp only [hA.add, hA.sub, hA.mul, hA.neg, hA.div, hA.mod, hA.mn, hA.mx, hA.eq, hA.lt, hA.le, hA.nat, hA.R, hA.lep, hA.ltp, hA.seq, inR, n_cast, Int.ofNat_eq_natCast, Option.getD_some, Option.getD_none] at *
  · have : l ≠ l' := fun e => by subst e; grind
    rw [hr]; simp [this]
  · have hzz : es.length = fs.length := by grind
    refine hA.loopI (fun n s => ∃ i : Int, 0 ≤ i ∧ n + i = l.length ∧ (∀ j : Nat, j < i → l[j]? = l'[j]?) ∧ s = ⟨[(5, .int i), (4, .bool false), (0, .e (.sl es)), (1, .e (.sl fs))], []⟩) l.length _ (Weak.keep (env' := [(5, .int 0), (4, .bool false), (0, .e (.sl es)), (1, .e (.sl fs))]) ⟨rfl, rfl, rfl, rfl, trivial⟩) ⟨0, by omega, by omega, fun j hj => by omega, rfl⟩ ?_
    rintro n s K ⟨i, h0, h1, h2, rfl⟩ hK
    cbv
    repeat' first | with_reducible rfl | with_reducible refine And.intro ?_ ?_ | ((with_reducible intro hcc); first | (cases hcc; done) | skip) | ((with_reducible show goC _ _ _ _ _ _ _ _); cbv) | ((with_reducible show goOps _ _ _ _ _); cbv) | ((with_reducible show okWr _ _ = _); rfl) | ((with_reducible refine callK_eq hA hP ?_ ?_ ?_ (Wks.refl _) (fun _ _ => ok18 _ _ _ _)); exact rfl; exact rfl; cbv) | ((with_reducible refine hA.row es _ _ ?_); have hin : (0 : Int) ≤ i ∧ i < es.length := (by simp only [hA.lt, decide_eq_true_eq, n_cast] at *; omega); obtain ⟨⟨b1, v1⟩, e1, q1⟩ := row_val he hin; refine ⟨hin, fun row hrow => ?_⟩; rw [e1] at hrow; subst hrow; cbv) | ((with_reducible refine hA.row fs _ _ ?_); have hin : (0 : Int) ≤ i ∧ i < fs.length := (by simp only [hA.lt, decide_eq_true_eq, n_cast] at *; omega); obtain ⟨⟨b2, v2⟩, e2, q2⟩ := row_val hf hin; refine ⟨hin, fun row hrow => ?_⟩; rw [e2] at hrow; subst hrow; cbv) | ((with_reducible refine hA.fin_pl _ _ _ ?_); cbv) | ((with_reducible refine hA.len _ _ _ _ _ fun z hz hb => ?_); cbv) | ((with_reducible refine hA.slen _ _ _ _ _ fun z hz hb => ?_); cbv) | ((with_reducible refine hA.off _ _ _ _ fun b hb => ?_); cbv) | ((with_reducible refine hA.plus _ _ _ fun b hb => ?_); cbv) | ((with_reducible refine hA.rep _ _ _ fun ds m hds hm => ?_); cbv) | ((with_reducible refine hA.app _ _ _ _ _ ⟨?_, fun zs m hzs hm => ?_⟩); rotate_left; cbv) | ((with_reducible refine hA.app0 _ _ _ ⟨?_, fun m hm => ?_⟩); rotate_left; cbv) | ((with_reducible refine hA.slc _ _ _ _ _ ⟨?_, fun zs hzs => ?_⟩); rotate_left; cbv) | ((with_reducible refine hA.st _ _ _ _ _ ⟨?_, fun ds hds => ?_⟩); rotate_left; cbv) | ((with_reducible refine hA.alt _ _ (Or.inl ?_)); cbv) | ((with_reducible refine hA.appv _ _ _ _ _ _ ⟨?_, fun bb m ds hbb hm hds => ?_⟩); rotate_left; cbv) | ((with_reducible refine hA.vsl _ _ _ _ ⟨?_, fun m hm => ?_⟩); rotate_left; cbv) | ((with_reducible refine hA.vcut _ _ _ _ ⟨?_, fun cs hcs => ?_⟩); rotate_left; cbv) | ((with_reducible refine hA.appw _ _ _ _ _ _ _ ⟨?_, fun bb m ds hbb hm hds => ?_⟩); rotate_left; cbv) | ((with_reducible refine hA.six _ _ _ fun z6 c hz6 hc hc2 => ?_); cbv) | ((with_reducible refine hA.ssl _ _ _ _ ⟨?_, fun sl hsl => ?_⟩); rotate_left; cbv) | ((with_reducible refine hA.sapp _ _ _ ⟨?_, fun sl hsl => ?_⟩); rotate_left; cbv) | ((with_reducible refine hA.s2b _ _ fun es hes => ?_); cbv) | ((with_reducible refine hA.gb0 true _ ?_); cbv) | ((with_reducible refine hA.gb0 false _ ?_); cbv) | ((with_reducible refine hA.gb _ _ fun vb hvb => ?_); cbv) | ((with_reducible refine hA.mget _ _ _ _ ⟨fun mv hmv => ?_, fun hmv => ?_⟩) <;> cbv) | ((with_reducible refine hA.mset _ _ _ _ fun ml hml => ?_); cbv) | (simp only [hA.natLit, hA.natOf, hA.natCast]; cbv)
    all_goals try simp only [hA.add, hA.sub, hA.mul, hA.neg, hA.div, hA.mod, hA.mn, hA.mx, hA.eq, hA.lt, hA.le, hA.nat, hA.R, hA.lep, hA.ltp, hA.seq, inR, n_cast, Int.ofNat_eq_natCast, Option.getD_some, Option.getD_none] at *
    · have hne : l ≠ l' := fun e => by
        subst e
        rw [q1] at q2
        simp only [Option.some.injEq, Prod.mk.injEq] at q2
        simp_all
      rw [hr]; simp [hne]
    · have := hb trivial trivial trivial
      omega
    · have hbv : b1 = b2 ∧ v1 = v2 := by grind
      refine hK _ (n - 1) _ (by omega) (Weak.keep (env' := [(5, .int (i + 1)), (4, .bool false), (0, .e (.sl es)), (1, .e (.sl fs))]) ⟨rfl, rfl, rfl, rfl, trivial⟩) ⟨i + 1, by omega, by omega, fun j hj => ?_, rfl⟩
      by_cases hji : (j : Int) < i
      · exact h2 j hji
      · have : j = i.toNat := by omega
        rw [this, q1, q2, hbv.1, hbv.2]
    · have hll : l = l' := by
        refine List.ext_getElem? fun j => ?_
        by_cases hj : (j : Int) < i
        · exact h2 j hj
        · rw [List.getElem?_eq_none (by grind), List.getElem?_eq_none (by grind)]
      rw [hr]; simp [hll])
end Go.Proofs.Ytmnhoglkahmlaaa.Ab
