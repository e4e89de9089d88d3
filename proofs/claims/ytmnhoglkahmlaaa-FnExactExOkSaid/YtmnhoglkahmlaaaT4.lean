/- And, or. -/
import Derived.Test.YtmnhoglkahmlaaaT3
import Derived.Test.YtmnhoglkahmlaaaT2
set_option linter.unusedSimpArgs false
set_option linter.unusedVariables false
set_option linter.unnecessarySimpa false
set_option linter.constructorNameAsVariable false
namespace Go.Proofs.Ytmnhoglkahmlaaa.Ab
open Go
def tr (b : Bool) (v : Int) : Int := if b then 1 else if v = 0 then 0 else 2
abbrev ofT (k : Int) : D := dVal (decide (k = 1)) (if k = 1 then 0 else k / 2)
/-- The three truths: what each side makes of a value. -/
theorem three (b : Bool) (v : Int) : (tr b v = 0 ∧ Plain Try.prog 56 [dVal b v] (.int 0) ∧ Plain Try.prog 57 [dVal b v] (.int 0)) ∨ (tr b v = 1 ∧ Plain Try.prog 56 [dVal b v] (.int 1) ∧ Plain Try.prog 57 [dVal b v] (.int 2)) ∨
    (tr b v = 2 ∧ Plain Try.prog 56 [dVal b v] (.int 2) ∧ Plain Try.prog 57 [dVal b v] (.int 1)) := by
  have h1 := ok56 b v
  have h2 := ok57 b v
  unfold tr
  cases b with
  | true => rw [if_pos rfl] at h1 h2; exact .inr (.inl ⟨rfl, h1, h2⟩)
  | false =>
    rw [if_neg (by simp)] at h1 h2
    by_cases h : v = 0
    · rw [if_pos h] at h1 h2; exact .inl ⟨by simp [h], h1, h2⟩
    · rw [if_neg h] at h1 h2; exact .inr (.inr ⟨by simp [h], h1, h2⟩)
theorem ok21 (b : Bool) (v : Int) (b' : Bool) (v' : Int) : Plain Try.prog 21 [dVal b v, dVal b' v'] (ofT (min (tr b v) (tr b' v'))) := okOf mixed p21 fun A P hA hP => (by
  rcases three b v with ⟨e1, h1, _⟩ | ⟨e1, h1, _⟩ | ⟨e1, h1, _⟩ <;> rcases three b' v' with ⟨e2, h2, _⟩ | ⟨e2, h2, _⟩ | ⟨e2, h2, _⟩ <;> rw [e1, e2]
  all_goals
    cbv
    repeat' first | with_reducible rfl | with_reducible refine And.intro ?_ ?_ | with_reducible intro _ | ((with_reducible show goC _ _ _ _ _ _ _ _); cbv) | ((with_reducible refine callK_eq hA hP ?_ ?_ ?_ (Wks.refl _) (fun _ _ => h1)); exact rfl; exact rfl; cbv) | ((with_reducible refine callK_eq hA hP ?_ ?_ ?_ (Wks.refl _) (fun _ _ => h2)); exact rfl; exact rfl; cbv) | ((with_reducible refine callK_eq hA hP ?_ ?_ ?_ (Wks.refl _) (fun _ _ => ok55 _ ?_)); exact rfl; exact rfl; cbv) | ((with_reducible refine hA.fin_pl _ _ _ ?_); cbv) | ((with_reducible refine hA.len _ _ _ _ _ fun z hz hb => ?_); cbv) | ((with_reducible refine hA.slen _ _ _ _ _ fun z hz hb => ?_); cbv) | ((with_reducible refine hA.off _ _ _ _ fun b hb => ?_); cbv) | ((with_reducible refine hA.plus _ _ _ fun b hb => ?_); cbv) | ((with_reducible refine hA.rep _ _ _ fun ds m hds hm => ?_); cbv) | ((with_reducible refine hA.app _ _ _ _ _ ⟨?_, fun zs m hzs hm => ?_⟩); rotate_left; cbv) | ((with_reducible refine hA.app0 _ _ _ ⟨?_, fun m hm => ?_⟩); rotate_left; cbv) | ((with_reducible refine hA.slc _ _ _ _ _ ⟨?_, fun zs hzs => ?_⟩); rotate_left; cbv) | ((with_reducible refine hA.st _ _ _ _ _ ⟨?_, fun ds hds => ?_⟩); rotate_left; cbv) | (simp only [hA.natLit, hA.natOf, hA.natCast]; cbv)
    all_goals try simp only [hA.add, hA.sub, hA.mul, hA.neg, hA.div, hA.mod, hA.mn, hA.mx, hA.eq, hA.lt, hA.le, hA.nat, hA.R, hA.lep, hA.ltp, hA.seq, inR, n_cast] at *
    all_goals first | omega | (simp_all; done))
theorem ok22 (b : Bool) (v : Int) (b' : Bool) (v' : Int) : Plain Try.prog 22 [dVal b v, dVal b' v'] (ofT (min (tr b v) (tr b' v'))) := okOf mixed p22 fun A P hA hP => (by
  rcases three b v with ⟨e1, _, h1⟩ | ⟨e1, _, h1⟩ | ⟨e1, _, h1⟩ <;> rcases three b' v' with ⟨e2, _, h2⟩ | ⟨e2, _, h2⟩ | ⟨e2, _, h2⟩ <;> rw [e1, e2]
  all_goals
    cbv
    repeat' first | with_reducible rfl | with_reducible refine And.intro ?_ ?_ | with_reducible intro _ | ((with_reducible show goC _ _ _ _ _ _ _ _); cbv) | ((with_reducible refine callK_eq hA hP ?_ ?_ ?_ (Wks.refl _) (fun _ _ => h1)); exact rfl; exact rfl; cbv) | ((with_reducible refine callK_eq hA hP ?_ ?_ ?_ (Wks.refl _) (fun _ _ => h2)); exact rfl; exact rfl; cbv) | ((with_reducible refine callK_eq hA hP ?_ ?_ ?_ (Wks.refl _) (fun _ _ => ok58 _)); exact rfl; exact rfl; cbv) | ((with_reducible refine hA.fin_pl _ _ _ ?_); cbv) | ((with_reducible refine hA.len _ _ _ _ _ fun z hz hb => ?_); cbv) | ((with_reducible refine hA.slen _ _ _ _ _ fun z hz hb => ?_); cbv) | ((with_reducible refine hA.off _ _ _ _ fun b hb => ?_); cbv) | ((with_reducible refine hA.plus _ _ _ fun b hb => ?_); cbv) | ((with_reducible refine hA.rep _ _ _ fun ds m hds hm => ?_); cbv) | ((with_reducible refine hA.app _ _ _ _ _ ⟨?_, fun zs m hzs hm => ?_⟩); rotate_left; cbv) | ((with_reducible refine hA.app0 _ _ _ ⟨?_, fun m hm => ?_⟩); rotate_left; cbv) | ((with_reducible refine hA.slc _ _ _ _ _ ⟨?_, fun zs hzs => ?_⟩); rotate_left; cbv) | ((with_reducible refine hA.st _ _ _ _ _ ⟨?_, fun ds hds => ?_⟩); rotate_left; cbv) | (simp only [hA.natLit, hA.natOf, hA.natCast]; cbv)
    all_goals try simp only [hA.add, hA.sub, hA.mul, hA.neg, hA.div, hA.mod, hA.mn, hA.mx, hA.eq, hA.lt, hA.le, hA.nat, hA.R, hA.lep, hA.ltp, hA.seq, inR, n_cast] at *
    all_goals first | omega | (simp_all; done))
theorem ok23 (b : Bool) (v : Int) (b' : Bool) (v' : Int) : Plain Try.prog 23 [dVal b v, dVal b' v'] (ofT (max (tr b v) (tr b' v'))) := okOf mixed p23 fun A P hA hP => (by
  rcases three b v with ⟨e1, h1, _⟩ | ⟨e1, h1, _⟩ | ⟨e1, h1, _⟩ <;> rcases three b' v' with ⟨e2, h2, _⟩ | ⟨e2, h2, _⟩ | ⟨e2, h2, _⟩ <;> rw [e1, e2]
  all_goals
    cbv
    repeat' first | with_reducible rfl | with_reducible refine And.intro ?_ ?_ | with_reducible intro _ | ((with_reducible show goC _ _ _ _ _ _ _ _); cbv) | ((with_reducible refine callK_eq hA hP ?_ ?_ ?_ (Wks.refl _) (fun _ _ => h1)); exact rfl; exact rfl; cbv) | ((with_reducible refine callK_eq hA hP ?_ ?_ ?_ (Wks.refl _) (fun _ _ => h2)); exact rfl; exact rfl; cbv) | ((with_reducible refine callK_eq hA hP ?_ ?_ ?_ (Wks.refl _) (fun _ _ => ok55 _ ?_)); exact rfl; exact rfl; cbv) | ((with_reducible refine hA.fin_pl _ _ _ ?_); cbv) | ((with_reducible refine hA.len _ _ _ _ _ fun z hz hb => ?_); cbv) | ((with_reducible refine hA.slen _ _ _ _ _ fun z hz hb => ?_); cbv) | ((with_reducible refine hA.off _ _ _ _ fun b hb => ?_); cbv) | ((with_reducible refine hA.plus _ _ _ fun b hb => ?_); cbv) | ((with_reducible refine hA.rep _ _ _ fun ds m hds hm => ?_); cbv) | ((with_reducible refine hA.app _ _ _ _ _ ⟨?_, fun zs m hzs hm => ?_⟩); rotate_left; cbv) | ((with_reducible refine hA.app0 _ _ _ ⟨?_, fun m hm => ?_⟩); rotate_left; cbv) | ((with_reducible refine hA.slc _ _ _ _ _ ⟨?_, fun zs hzs => ?_⟩); rotate_left; cbv) | ((with_reducible refine hA.st _ _ _ _ _ ⟨?_, fun ds hds => ?_⟩); rotate_left; cbv) | (simp only [hA.natLit, hA.natOf, hA.natCast]; cbv)
    all_goals try simp only [hA.add, hA.sub, hA.mul, hA.neg, hA.div, hA.mod, hA.mn, hA.mx, hA.eq, hA.lt, hA.le, hA.nat, hA.R, hA.lep, hA.ltp, hA.seq, inR, n_cast] at *
    all_goals first | omega | (simp_all; done))
theorem ok24 (b : Bool) (v : Int) (b' : Bool) (v' : Int) : Plain Try.prog 24 [dVal b v, dVal b' v'] (ofT (max (tr b v) (tr b' v'))) := okOf mixed p24 fun A P hA hP => (by
  rcases three b v with ⟨e1, _, h1⟩ | ⟨e1, _, h1⟩ | ⟨e1, _, h1⟩ <;> rcases three b' v' with ⟨e2, _, h2⟩ | ⟨e2, _, h2⟩ | ⟨e2, _, h2⟩ <;> rw [e1, e2]
  all_goals
    cbv
    repeat' first | with_reducible rfl | with_reducible refine And.intro ?_ ?_ | with_reducible intro _ | ((with_reducible show goC _ _ _ _ _ _ _ _); cbv) | ((with_reducible refine callK_eq hA hP ?_ ?_ ?_ (Wks.refl _) (fun _ _ => h1)); exact rfl; exact rfl; cbv) | ((with_reducible refine callK_eq hA hP ?_ ?_ ?_ (Wks.refl _) (fun _ _ => h2)); exact rfl; exact rfl; cbv) | ((with_reducible refine callK_eq hA hP ?_ ?_ ?_ (Wks.refl _) (fun _ _ => ok58 _)); exact rfl; exact rfl; cbv) | ((with_reducible refine hA.fin_pl _ _ _ ?_); cbv) | ((with_reducible refine hA.len _ _ _ _ _ fun z hz hb => ?_); cbv) | ((with_reducible refine hA.slen _ _ _ _ _ fun z hz hb => ?_); cbv) | ((with_reducible refine hA.off _ _ _ _ fun b hb => ?_); cbv) | ((with_reducible refine hA.plus _ _ _ fun b hb => ?_); cbv) | ((with_reducible refine hA.rep _ _ _ fun ds m hds hm => ?_); cbv) | ((with_reducible refine hA.app _ _ _ _ _ ⟨?_, fun zs m hzs hm => ?_⟩); rotate_left; cbv) | ((with_reducible refine hA.app0 _ _ _ ⟨?_, fun m hm => ?_⟩); rotate_left; cbv) | ((with_reducible refine hA.slc _ _ _ _ _ ⟨?_, fun zs hzs => ?_⟩); rotate_left; cbv) | ((with_reducible refine hA.st _ _ _ _ _ ⟨?_, fun ds hds => ?_⟩); rotate_left; cbv) | (simp only [hA.natLit, hA.natOf, hA.natCast]; cbv)
    all_goals try simp only [hA.add, hA.sub, hA.mul, hA.neg, hA.div, hA.mod, hA.mn, hA.mx, hA.eq, hA.lt, hA.le, hA.nat, hA.R, hA.lep, hA.ltp, hA.seq, inR, n_cast] at *
    all_goals first | omega | (simp_all; done))
theorem ok6 (b : Bool) (v : Int) (b' : Bool) (v' : Int) : Plain Try.prog 6 [dVal b v, dVal b' v'] (.bool true) := okOf mixed p6 fun A P hA hP => (by
  obtain ⟨x, y, h1, h2⟩ : ∃ x y, Plain Try.prog 21 [dVal b v, dVal b' v'] (dVal x y) ∧ Plain Try.prog 22 [dVal b v, dVal b' v'] (dVal x y) := ⟨_, _, ok21 b v b' v', ok22 b v b' v'⟩
  cbv
  repeat' first | with_reducible rfl | with_reducible refine And.intro ?_ ?_ | with_reducible intro _ | ((with_reducible show goC _ _ _ _ _ _ _ _); cbv) | ((with_reducible refine callK_eq hA hP ?_ ?_ ?_ (Wks.refl _) (fun _ _ => ok16 _ _)); exact rfl; exact rfl; cbv) | ((with_reducible refine callK_eq hA hP ?_ ?_ ?_ (Wks.refl _) (fun _ _ => h1)); exact rfl; exact rfl; cbv) | ((with_reducible refine callK_eq hA hP ?_ ?_ ?_ (Wks.refl _) (fun _ _ => h2)); exact rfl; exact rfl; cbv) | ((with_reducible refine callK_eq hA hP ?_ ?_ ?_ (Wks.refl _) (fun _ _ => ok18 _ _ _ _)); exact rfl; exact rfl; cbv) | ((with_reducible refine hA.fin_pl _ _ _ ?_); cbv) | ((with_reducible refine hA.len _ _ _ _ _ fun z hz hb => ?_); cbv) | ((with_reducible refine hA.slen _ _ _ _ _ fun z hz hb => ?_); cbv) | ((with_reducible refine hA.off _ _ _ _ fun b hb => ?_); cbv) | ((with_reducible refine hA.plus _ _ _ fun b hb => ?_); cbv) | ((with_reducible refine hA.rep _ _ _ fun ds m hds hm => ?_); cbv) | ((with_reducible refine hA.app _ _ _ _ _ ⟨?_, fun zs m hzs hm => ?_⟩); rotate_left; cbv) | ((with_reducible refine hA.app0 _ _ _ ⟨?_, fun m hm => ?_⟩); rotate_left; cbv) | ((with_reducible refine hA.slc _ _ _ _ _ ⟨?_, fun zs hzs => ?_⟩); rotate_left; cbv) | ((with_reducible refine hA.st _ _ _ _ _ ⟨?_, fun ds hds => ?_⟩); rotate_left; cbv) | (simp only [hA.natLit, hA.natOf, hA.natCast]; cbv)
  all_goals try simp only [hA.add, hA.sub, hA.mul, hA.neg, hA.div, hA.mod, hA.mn, hA.mx, hA.eq, hA.lt, hA.le, hA.nat, hA.R, hA.lep, hA.ltp, hA.seq, inR, n_cast] at *
  all_goals simp_all)
theorem ok7 (b : Bool) (v : Int) (b' : Bool) (v' : Int) : Plain Try.prog 7 [dVal b v, dVal b' v'] (.bool true) := okOf mixed p7 fun A P hA hP => (by
  obtain ⟨x, y, h1, h2⟩ : ∃ x y, Plain Try.prog 23 [dVal b v, dVal b' v'] (dVal x y) ∧ Plain Try.prog 24 [dVal b v, dVal b' v'] (dVal x y) := ⟨_, _, ok23 b v b' v', ok24 b v b' v'⟩
  cbv
  repeat' first | with_reducible rfl | with_reducible refine And.intro ?_ ?_ | with_reducible intro _ | ((with_reducible show goC _ _ _ _ _ _ _ _); cbv) | ((with_reducible refine callK_eq hA hP ?_ ?_ ?_ (Wks.refl _) (fun _ _ => ok16 _ _)); exact rfl; exact rfl; cbv) | ((with_reducible refine callK_eq hA hP ?_ ?_ ?_ (Wks.refl _) (fun _ _ => h1)); exact rfl; exact rfl; cbv) | ((with_reducible refine callK_eq hA hP ?_ ?_ ?_ (Wks.refl _) (fun _ _ => h2)); exact rfl; exact rfl; cbv) | ((with_reducible refine callK_eq hA hP ?_ ?_ ?_ (Wks.refl _) (fun _ _ => ok18 _ _ _ _)); exact rfl; exact rfl; cbv) | ((with_reducible refine hA.fin_pl _ _ _ ?_); cbv) | ((with_reducible refine hA.len _ _ _ _ _ fun z hz hb => ?_); cbv) | ((with_reducible refine hA.slen _ _ _ _ _ fun z hz hb => ?_); cbv) | ((with_reducible refine hA.off _ _ _ _ fun b hb => ?_); cbv) | ((with_reducible refine hA.plus _ _ _ fun b hb => ?_); cbv) | ((with_reducible refine hA.rep _ _ _ fun ds m hds hm => ?_); cbv) | ((with_reducible refine hA.app _ _ _ _ _ ⟨?_, fun zs m hzs hm => ?_⟩); rotate_left; cbv) | ((with_reducible refine hA.app0 _ _ _ ⟨?_, fun m hm => ?_⟩); rotate_left; cbv) | ((with_reducible refine hA.slc _ _ _ _ _ ⟨?_, fun zs hzs => ?_⟩); rotate_left; cbv) | ((with_reducible refine hA.st _ _ _ _ _ ⟨?_, fun ds hds => ?_⟩); rotate_left; cbv) | (simp only [hA.natLit, hA.natOf, hA.natCast]; cbv)
  all_goals try simp only [hA.add, hA.sub, hA.mul, hA.neg, hA.div, hA.mod, hA.mn, hA.mx, hA.eq, hA.lt, hA.le, hA.nat, hA.R, hA.lep, hA.ltp, hA.seq, inR, n_cast] at *
  all_goals simp_all)
end Go.Proofs.Ytmnhoglkahmlaaa.Ab
