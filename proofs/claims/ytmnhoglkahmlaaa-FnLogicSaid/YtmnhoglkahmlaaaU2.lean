/- Rows of values: sizes. -/
import Derived.Test.YtmnhoglkahmlaaaU1
import Derived.Test.YtmnhoglkahmlaaaT6
set_option linter.unusedSimpArgs false
set_option linter.unusedVariables false
set_option linter.unnecessarySimpa false
set_option linter.constructorNameAsVariable false
namespace Go.Proofs.Ytmnhoglkahmlaaa.Ab
open Go
theorem ok25 (es : List (List E)) (left : Int) (h : 0 ≤ left ∧ left ≤ 1048576) : Plain Try.prog 25 [.e (.sl es), .int left] (.int (if left - es.length < 0 then -1 else left - es.length)) := okOf mixed p25 fun A P hA hP => (by
  obtain ⟨r, hr⟩ : ∃ r : Int, r = if left - es.length < 0 then -1 else left - es.length := ⟨_, rfl⟩
  rw [← hr]
  cbv
  repeat' first | with_reducible rfl | with_reducible refine And.intro ?_ ?_ | ((with_reducible intro hcc); first | (cases hcc; done) | skip) | ((with_reducible show goC _ _ _ _ _ _ _ _); cbv) | ((with_reducible show goOps _ _ _ _ _); cbv) | ((with_reducible show okWr _ _ = _); rfl) | ((with_reducible refine hA.fin_pl _ _ _ ?_); cbv) | ((with_reducible refine hA.len _ _ _ _ _ fun z hz hb => ?_); cbv) | ((with_reducible refine hA.slen _ _ _ _ _ fun z hz hb => ?_); cbv) | ((with_reducible refine hA.off _ _ _ _ fun b hb => ?_); cbv) | ((with_reducible refine hA.plus _ _ _ fun b hb => ?_); cbv) | ((with_reducible refine hA.rep _ _ _ fun ds m hds hm => ?_); cbv) | ((with_reducible refine hA.app _ _ _ _ _ ⟨?_, fun zs m hzs hm => ?_⟩); rotate_left; cbv) | ((with_reducible refine hA.app0 _ _ _ ⟨?_, fun m hm => ?_⟩); rotate_left; cbv) | ((with_reducible refine hA.slc _ _ _ _ _ ⟨?_, fun zs hzs => ?_⟩); rotate_left; cbv) | ((with_reducible refine hA.st _ _ _ _ _ ⟨?_, fun ds hds => ?_⟩); rotate_left; cbv) | ((with_reducible refine hA.alt _ _ (Or.inl ?_)); cbv) | ((with_reducible refine hA.appv _ _ _ _ _ _ ⟨?_, fun bb m ds hbb hm hds => ?_⟩); rotate_left; cbv) | ((with_reducible refine hA.vsl _ _ _ _ ⟨?_, fun m hm => ?_⟩); rotate_left; cbv) | ((with_reducible refine hA.vcut _ _ _ _ ⟨?_, fun cs hcs => ?_⟩); rotate_left; cbv) | ((with_reducible refine hA.appw _ _ _ _ _ _ _ ⟨?_, fun bb m ds hbb hm hds => ?_⟩); rotate_left; cbv) | ((with_reducible refine hA.six _ _ _ fun z6 c hz6 hc hc2 => ?_); cbv) | ((with_reducible refine hA.ssl _ _ _ _ ⟨?_, fun sl hsl => ?_⟩); rotate_left; cbv) | ((with_reducible refine hA.sapp _ _ _ ⟨?_, fun sl hsl => ?_⟩); rotate_left; cbv) | ((with_reducible refine hA.s2b _ _ fun es hes => ?_); cbv) | ((with_reducible refine hA.gb0 true _ ?_); cbv) | ((with_reducible refine hA.gb0 false _ ?_); cbv) | ((with_reducible refine hA.gb _ _ fun vb hvb => ?_); cbv) | ((with_reducible refine hA.mget _ _ _ _ ⟨fun mv hmv => ?_, fun hmv => ?_⟩) <;> cbv) | ((with_reducible refine hA.mset _ _ _ _ fun ml hml => ?_); cbv) | (simp only [hA.natLit, hA.natOf, hA.natCast]; cbv)
  all_goals try simp only [hA.add, hA.sub, hA.mul, hA.neg, hA.div, hA.mod, hA.mn, hA.mx, hA.eq, hA.lt, hA.le, hA.nat, hA.R, hA.lep, hA.ltp, hA.seq, inR, n_cast, Int.ofNat_eq_natCast, Option.getD_some, Option.getD_none] at *
  all_goals grind)
end Go.Proofs.Ytmnhoglkahmlaaa.Ab
