/- Expressions: what an operation takes. -/
import Derived.Test.YtmnhoglkahmlaaaV2
set_option linter.unusedSimpArgs false
set_option linter.unusedVariables false
set_option linter.unnecessarySimpa false
set_option linter.constructorNameAsVariable false
namespace Go.Proofs.Ytmnhoglkahmlaaa.Ab
open Go
def takes (o : Int × Int) (w : Int) : Int :=
  if o.1 = 1 ∨ (o.1 = 2 ∧ o.2 = 0) then 0 else if o.1 = 3 ∧ 0 ≤ o.2 ∧ o.2 < w then 0 else if o.1 = 4 ∧ 1 ≤ o.2 ∧ o.2 ≤ 6 then 2
  else if (o.1 = 5 ∨ o.1 = 6) ∧ o.2 = 0 then 2 else if (o.1 = 7 ∨ o.1 = 8) ∧ o.2 = 0 then 1 else -1
theorem takes_le (o : Int × Int) (w : Int) : -1 ≤ takes o w ∧ takes o w ≤ 2 := by unfold takes; grind
set_option maxRecDepth 100000 in
theorem ok85 (k n w : Int) : Plain Try.prog 85 [dOp k n, .int w] (.int (takes (k, n) w)) := okOf mixed p85 fun A P hA hP => (by
  obtain ⟨r, hr⟩ : ∃ r, r = takes (k, n) w := ⟨_, rfl⟩
  rw [← hr]
  cbv
  repeat' first | with_reducible rfl | with_reducible refine And.intro ?_ ?_ | ((with_reducible intro hcc); first | (cases hcc; done) | skip) | ((with_reducible show goC _ _ _ _ _ _ _ _); cbv) | ((with_reducible show goOps _ _ _ _ _); cbv) | ((with_reducible show okWr _ _ = _); rfl) | ((with_reducible refine hA.fin_pl _ _ _ ?_); cbv) | ((with_reducible refine hA.len _ _ _ _ _ fun z hz hb => ?_); cbv) | ((with_reducible refine hA.slen _ _ _ _ _ fun z hz hb => ?_); cbv) | ((with_reducible refine hA.off _ _ _ _ fun b hb => ?_); cbv) | ((with_reducible refine hA.plus _ _ _ fun b hb => ?_); cbv) | ((with_reducible refine hA.rep _ _ _ fun ds m hds hm => ?_); cbv) | ((with_reducible refine hA.app _ _ _ _ _ ⟨?_, fun zs m hzs hm => ?_⟩); rotate_left; cbv) | ((with_reducible refine hA.app0 _ _ _ ⟨?_, fun m hm => ?_⟩); rotate_left; cbv) | ((with_reducible refine hA.slc _ _ _ _ _ ⟨?_, fun zs hzs => ?_⟩); rotate_left; cbv) | ((with_reducible refine hA.st _ _ _ _ _ ⟨?_, fun ds hds => ?_⟩); rotate_left; cbv) | ((with_reducible refine hA.alt _ _ (Or.inl ?_)); cbv) | ((with_reducible refine hA.appv _ _ _ _ _ _ ⟨?_, fun bb m ds hbb hm hds => ?_⟩); rotate_left; cbv) | ((with_reducible refine hA.vsl _ _ _ _ ⟨?_, fun m hm => ?_⟩); rotate_left; cbv) | ((with_reducible refine hA.vcut _ _ _ _ ⟨?_, fun cs hcs => ?_⟩); rotate_left; cbv) | ((with_reducible refine hA.appw _ _ _ _ _ _ _ ⟨?_, fun bb m ds hbb hm hds => ?_⟩); rotate_left; cbv) | ((with_reducible refine hA.six _ _ _ fun z6 c hz6 hc hc2 => ?_); cbv) | ((with_reducible refine hA.ssl _ _ _ _ ⟨?_, fun sl hsl => ?_⟩); rotate_left; cbv) | ((with_reducible refine hA.sapp _ _ _ ⟨?_, fun sl hsl => ?_⟩); rotate_left; cbv) | ((with_reducible refine hA.s2b _ _ fun es hes => ?_); cbv) | ((with_reducible refine hA.gb0 true _ ?_); cbv) | ((with_reducible refine hA.gb0 false _ ?_); cbv) | ((with_reducible refine hA.gb _ _ fun vb hvb => ?_); cbv) | ((with_reducible refine hA.mget _ _ _ _ ⟨fun mv hmv => ?_, fun hmv => ?_⟩) <;> cbv) | ((with_reducible refine hA.mset _ _ _ _ fun ml hml => ?_); cbv) | (simp only [hA.natLit, hA.natOf, hA.natCast]; cbv)
  all_goals try simp only [hA.add, hA.sub, hA.mul, hA.neg, hA.div, hA.mod, hA.mn, hA.mx, hA.eq, hA.lt, hA.le, hA.nat, hA.R, hA.lep, hA.ltp, hA.seq, inR, n_cast, Int.ofNat_eq_natCast, Option.getD_some, Option.getD_none] at *
  all_goals subst hr
  all_goals try simp only [takes]
  all_goals try simp at *
  all_goals grind)
end Go.Proofs.Ytmnhoglkahmlaaa.Ab
