import Derived.Test.YtmnhoglkahmlaaaT1
import Derived.Test.YtmnhoglkahmlaaaAbV
set_option linter.unusedSimpArgs false
set_option linter.unusedVariables false
set_option linter.unnecessarySimpa false
set_option linter.constructorNameAsVariable false
namespace Go.Proofs.Ytmnhoglkahmlaaa.Ab
open Go
theorem ok56 (b : Bool) (v : Int) : Plain Try.prog 56 [dVal b v] (.int (if b then 1 else if v = 0 then 0 else 2)) := okOf mixed p56 fun A P hA hP => (by
  cbv
  repeat' first | with_reducible rfl | with_reducible refine And.intro ?_ ?_ | with_reducible intro _ | ((with_reducible show goC _ _ _ _ _ _ _ _); cbv) | (simp only [hA.natLit, hA.natOf, hA.natCast]; cbv)
  all_goals try simp only [hA.add, hA.sub, hA.mul, hA.neg, hA.div, hA.mod, hA.mn, hA.mx, hA.eq, hA.lt, hA.le, hA.nat, hA.R, hA.lep, hA.ltp, hA.seq, inR] at *
  all_goals simp_all)
theorem ok55 (v : Int) (h : v = 0 ∨ v = 1 ∨ v = 2) : Plain Try.prog 55 [.int v] (.agg [.bool (decide (v = 1)), .int (if v = 1 then 0 else v / 2)]) := okOf mixed p55 fun A P hA hP => (by
  cbv
  repeat' first | with_reducible rfl | with_reducible refine And.intro ?_ ?_ | with_reducible intro _ | ((with_reducible show goC _ _ _ _ _ _ _ _); cbv) | (simp only [hA.natLit, hA.natOf, hA.natCast]; cbv)
  all_goals try simp only [hA.add, hA.sub, hA.mul, hA.neg, hA.div, hA.mod, hA.mn, hA.mx, hA.eq, hA.lt, hA.le, hA.nat, hA.R, hA.lep, hA.ltp, hA.seq, inR] at *
  all_goals first | omega | (simp_all; done))
theorem ok15 (b : Bool) (v : Int) : Plain Try.prog 15 [dVal b v] (dVal b (if b = false ∧ v = 0 then 1 else 0)) := okOf mixed p15 fun A P hA hP => (by
  cbv
  repeat' first | with_reducible rfl | with_reducible refine And.intro ?_ ?_ | with_reducible intro _ | ((with_reducible show goC _ _ _ _ _ _ _ _); cbv) | ((with_reducible refine callK_eq hA hP ?_ ?_ ?_ (Wks.refl _) (fun _ _ => ok56 _ _)); exact rfl; exact rfl; cbv) | ((with_reducible refine callK_eq hA hP ?_ ?_ ?_ (Wks.refl _) (fun _ _ => ok55 _ ?_)); exact rfl; exact rfl; cbv) | (simp only [hA.natLit, hA.natOf, hA.natCast]; cbv)
  all_goals try simp only [hA.add, hA.sub, hA.mul, hA.neg, hA.div, hA.mod, hA.mn, hA.mx, hA.eq, hA.lt, hA.le, hA.nat, hA.R, hA.lep, hA.ltp, hA.seq, inR] at *
  all_goals (cases b <;> simp) <;> (split <;> simp_all))
theorem ok57 (b : Bool) (v : Int) : Plain Try.prog 57 [dVal b v] (.int (if b then 2 else if v = 0 then 0 else 1)) := okOf mixed p57 fun A P hA hP => (by
  cbv
  repeat' first | with_reducible rfl | with_reducible refine And.intro ?_ ?_ | with_reducible intro _ | ((with_reducible show goC _ _ _ _ _ _ _ _); cbv) | (simp only [hA.natLit, hA.natOf, hA.natCast]; cbv)
  all_goals try simp only [hA.add, hA.sub, hA.mul, hA.neg, hA.div, hA.mod, hA.mn, hA.mx, hA.eq, hA.lt, hA.le, hA.nat, hA.R, hA.lep, hA.ltp, hA.seq, inR] at *
  all_goals simp_all)
theorem ok58 (v : Int) : Plain Try.prog 58 [.int v] (.agg [.bool (decide (v = 2)), .int (if v = 2 then 0 else v)]) := okOf mixed p58 fun A P hA hP => (by
  cbv
  repeat' first | with_reducible rfl | with_reducible refine And.intro ?_ ?_ | with_reducible intro _ | ((with_reducible show goC _ _ _ _ _ _ _ _); cbv) | (simp only [hA.natLit, hA.natOf, hA.natCast]; cbv)
  all_goals try simp only [hA.add, hA.sub, hA.mul, hA.neg, hA.div, hA.mod, hA.mn, hA.mx, hA.eq, hA.lt, hA.le, hA.nat, hA.R, hA.lep, hA.ltp, hA.seq, inR] at *
  all_goals first | omega | (simp_all; done))
theorem ok17 (b : Bool) (v : Int) : Plain Try.prog 17 [dVal b v] (dVal b (if b = false ∧ v = 0 then 1 else 0)) := okOf mixed p17 fun A P hA hP => (by
  have c := ok57 b v
  cases b with
  | true =>
    rw [if_pos rfl] at c
    cbv
    repeat' first | with_reducible rfl | with_reducible refine And.intro ?_ ?_ | with_reducible intro _ | ((with_reducible show goC _ _ _ _ _ _ _ _); cbv) | ((with_reducible refine callK_eq hA hP ?_ ?_ ?_ (Wks.refl _) (fun _ _ => c)); exact rfl; exact rfl; cbv) | ((with_reducible refine callK_eq hA hP ?_ ?_ ?_ (Wks.refl _) (fun _ _ => ok58 _)); exact rfl; exact rfl; cbv) | (simp only [hA.natLit, hA.natOf, hA.natCast]; cbv)
    all_goals try simp only [hA.add, hA.sub, hA.mul, hA.neg, hA.div, hA.mod, hA.mn, hA.mx, hA.eq, hA.lt, hA.le, hA.nat, hA.R, hA.lep, hA.ltp, hA.seq, inR] at *
    all_goals simp
  | false =>
    rw [if_neg (by simp)] at c
    by_cases h : v = 0
    · rw [if_pos h] at c
      cbv
      repeat' first | with_reducible rfl | with_reducible refine And.intro ?_ ?_ | with_reducible intro _ | ((with_reducible show goC _ _ _ _ _ _ _ _); cbv) | ((with_reducible refine callK_eq hA hP ?_ ?_ ?_ (Wks.refl _) (fun _ _ => c)); exact rfl; exact rfl; cbv) | ((with_reducible refine callK_eq hA hP ?_ ?_ ?_ (Wks.refl _) (fun _ _ => ok58 _)); exact rfl; exact rfl; cbv) | (simp only [hA.natLit, hA.natOf, hA.natCast]; cbv)
      all_goals try simp only [hA.add, hA.sub, hA.mul, hA.neg, hA.div, hA.mod, hA.mn, hA.mx, hA.eq, hA.lt, hA.le, hA.nat, hA.R, hA.lep, hA.ltp, hA.seq, inR] at *
      all_goals simp [h]
    · rw [if_neg h] at c
      cbv
      repeat' first | with_reducible rfl | with_reducible refine And.intro ?_ ?_ | with_reducible intro _ | ((with_reducible show goC _ _ _ _ _ _ _ _); cbv) | ((with_reducible refine callK_eq hA hP ?_ ?_ ?_ (Wks.refl _) (fun _ _ => c)); exact rfl; exact rfl; cbv) | ((with_reducible refine callK_eq hA hP ?_ ?_ ?_ (Wks.refl _) (fun _ _ => ok58 _)); exact rfl; exact rfl; cbv) | (simp only [hA.natLit, hA.natOf, hA.natCast]; cbv)
      all_goals try simp only [hA.add, hA.sub, hA.mul, hA.neg, hA.div, hA.mod, hA.mn, hA.mx, hA.eq, hA.lt, hA.le, hA.nat, hA.R, hA.lep, hA.ltp, hA.seq, inR] at *
      all_goals simp [h])
theorem ok16 (b : Bool) (v : Int) : Plain Try.prog 16 [dVal b v] (dVal b v) := okOf mixed p16 fun A P hA hP => (by
  cbv
  repeat' first | with_reducible rfl | with_reducible refine And.intro ?_ ?_ | with_reducible intro _ | ((with_reducible show goC _ _ _ _ _ _ _ _); cbv) | (simp only [hA.natLit, hA.natOf, hA.natCast]; cbv)
  all_goals try simp only [hA.add, hA.sub, hA.mul, hA.neg, hA.div, hA.mod, hA.mn, hA.mx, hA.eq, hA.lt, hA.le, hA.nat, hA.R, hA.lep, hA.ltp, hA.seq, inR] at *
  )
theorem ok18 (b : Bool) (v : Int) (b' : Bool) (v' : Int) : Plain Try.prog 18 [dVal b v, dVal b' v'] (.bool (decide (b = b' ∧ v = v'))) := okOf mixed p18 fun A P hA hP => (by
  cbv
  repeat' first | with_reducible rfl | with_reducible refine And.intro ?_ ?_ | with_reducible intro _ | ((with_reducible show goC _ _ _ _ _ _ _ _); cbv) | (simp only [hA.natLit, hA.natOf, hA.natCast]; cbv)
  all_goals try simp only [hA.add, hA.sub, hA.mul, hA.neg, hA.div, hA.mod, hA.mn, hA.mx, hA.eq, hA.lt, hA.le, hA.nat, hA.R, hA.lep, hA.ltp, hA.seq, inR] at *
  all_goals (cases b <;> cases b' <;> by_cases h : v = v' <;> simp_all))
theorem ok4 (b : Bool) (v : Int) : Plain Try.prog 4 [dVal b v] (.bool true) := okOf mixed p4 fun A P hA hP => (by
  cbv
  repeat' first | with_reducible rfl | with_reducible refine And.intro ?_ ?_ | with_reducible intro _ | ((with_reducible show goC _ _ _ _ _ _ _ _); cbv) | ((with_reducible refine callK_eq hA hP ?_ ?_ ?_ (Wks.refl _) (fun _ _ => ok16 _ _)); exact rfl; exact rfl; cbv) | ((with_reducible refine callK_eq hA hP ?_ ?_ ?_ (Wks.refl _) (fun _ _ => ok15 _ _)); exact rfl; exact rfl; cbv) | ((with_reducible refine callK_eq hA hP ?_ ?_ ?_ (Wks.refl _) (fun _ _ => ok17 _ _)); exact rfl; exact rfl; cbv) | ((with_reducible refine callK_eq hA hP ?_ ?_ ?_ (Wks.refl _) (fun _ _ => ok18 _ _ _ _)); exact rfl; exact rfl; cbv) | (simp only [hA.natLit, hA.natOf, hA.natCast]; cbv)
  all_goals try simp only [hA.add, hA.sub, hA.mul, hA.neg, hA.div, hA.mod, hA.mn, hA.mx, hA.eq, hA.lt, hA.le, hA.nat, hA.R, hA.lep, hA.ltp, hA.seq, inR] at *
  all_goals simp_all)
end Go.Proofs.Ytmnhoglkahmlaaa.Ab
