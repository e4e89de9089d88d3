/- The law of EvalEx. -/
import Derived.Test.YtmnhoglkahmlaaaW4
import Derived.Test.YtmnhoglkahmlaaaU7
import Derived.Test.YtmnhoglkahmlaaaV6
set_option linter.unusedSimpArgs false
set_option linter.unusedVariables false
set_option linter.unnecessarySimpa false
set_option linter.constructorNameAsVariable false
namespace Go.Proofs.Ytmnhoglkahmlaaa.Ab
open Go
/-- What EvalEx answers. -/
def EvR (l : List (Int × Int)) (row : List V) (v : V) (b : Bool) : Prop := exOk l row.length = b ∧ (b = false → v = (true, 0)) ∧ (b = true → Seg l row 0 l.length v ∧ stk l row l.length = [v])
theorem evR_ex (l : List (Int × Int)) (row : List V) : ∃ v b, EvR l row v b := by
  cases h : exOk l row.length with
  | false => exact ⟨(true, 0), false, h, fun _ => rfl, fun h => by cases h⟩
  | true =>
    obtain ⟨v, h1, h2⟩ := ex_seg h
    exact ⟨v, true, h, fun h => by (cases h), fun _ => ⟨h1, h2⟩⟩
set_option maxRecDepth 100000 in
theorem ok40 {l : List (Int × Int)} {row : List V} {es fs : List (List E)} (he : es = l.map orow) (hf : fs = row.map vr) (hlen : es.length ≤ 1048576) {v : V} {b : Bool} (h : EvR l row v b) :
    Plain Try.prog 40 [.e (.sl es), .e (.sl fs)] (.tup [dv v, .bool b]) := okOf mixed p40 fun A P hA hP => (by
  have hl1 : es.length = l.length := by rw [he]; simp
  have hl2 : fs.length = row.length := by rw [hf]; simp
  obtain ⟨h1, h2, h3⟩ := h
  have h31 : ∀ w : Int, w = row.length → Plain Try.prog 31 [.e (.sl es), .int w] (.bool b) := fun w hw => by rw [← h1, hw]; exact ok31 l es he hlen row.length
  obtain ⟨v1, v2⟩ := v
  cases b with
  | false =>
    have := h2 rfl
    cases this
    cbv
    repeat' first | with_reducible rfl | with_reducible refine And.intro ?_ ?_ | with_reducible intro _ | ((with_reducible show goC _ _ _ _ _ _ _ _); cbv) | ((with_reducible show goOps _ _ _ _ _); cbv) | ((with_reducible show okWr _ _ = _); rfl) | ((with_reducible refine callK_eq hA hP ?_ ?_ ?_ (Wks.refl _) (fun _ _ => h31 _ ?_)); exact rfl; exact rfl; cbv) | ((with_reducible refine callK_eq hA hP ?_ ?_ ?_ (Wks.refl _) (fun _ _ => ok55 _ ?_)); exact rfl; exact rfl; cbv) | ((with_reducible refine hA.fin_pl _ _ _ ?_); cbv) | ((with_reducible refine hA.len _ _ _ _ _ fun z hz hb => ?_); cbv) | ((with_reducible refine hA.slen _ _ _ _ _ fun z hz hb => ?_); cbv) | ((with_reducible refine hA.off _ _ _ _ fun b hb => ?_); cbv) | ((with_reducible refine hA.plus _ _ _ fun b hb => ?_); cbv) | ((with_reducible refine hA.rep _ _ _ fun ds m hds hm => ?_); cbv) | ((with_reducible refine hA.app _ _ _ _ _ ⟨?_, fun zs m hzs hm => ?_⟩); rotate_left; cbv) | ((with_reducible refine hA.app0 _ _ _ ⟨?_, fun m hm => ?_⟩); rotate_left; cbv) | ((with_reducible refine hA.slc _ _ _ _ _ ⟨?_, fun zs hzs => ?_⟩); rotate_left; cbv) | ((with_reducible refine hA.st _ _ _ _ _ ⟨?_, fun ds hds => ?_⟩); rotate_left; cbv) | ((with_reducible refine hA.alt _ _ (Or.inl ?_)); cbv) | ((with_reducible refine hA.appv _ _ _ _ _ _ ⟨?_, fun bb m ds hbb hm hds => ?_⟩); rotate_left; cbv) | ((with_reducible refine hA.vsl _ _ _ _ ⟨?_, fun m hm => ?_⟩); rotate_left; cbv) | ((with_reducible refine hA.six _ _ _ ⟨?_, fun c hc hc2 => ?_⟩); rotate_left; cbv) | ((with_reducible refine hA.ssl _ _ _ _ ⟨?_, fun sl hsl => ?_⟩); rotate_left; cbv) | ((with_reducible refine hA.sapp _ _ _ ⟨?_, fun sl hsl => ?_⟩); rotate_left; cbv) | ((with_reducible refine hA.s2b _ _ fun es hes => ?_); cbv) | (simp only [hA.natLit, hA.natOf, hA.natCast]; cbv)
    all_goals try simp only [hA.add, hA.sub, hA.mul, hA.neg, hA.div, hA.mod, hA.mn, hA.mx, hA.eq, hA.lt, hA.le, hA.nat, hA.R, hA.lep, hA.ltp, hA.seq, inR, n_cast, Int.ofNat_eq_natCast, Option.getD_some, Option.getD_none] at *
    all_goals first | rfl | omega | grind
  | true =>
    obtain ⟨h4, h5⟩ := h3 rfl
    have h71 := ok71 he hf hlen h4
    cbv
    repeat' first | with_reducible rfl | with_reducible refine And.intro ?_ ?_ | with_reducible intro _ | ((with_reducible show goC _ _ _ _ _ _ _ _); cbv) | ((with_reducible show goOps _ _ _ _ _); cbv) | ((with_reducible show okWr _ _ = _); rfl) | ((with_reducible refine callK_eq hA hP ?_ ?_ ?_ (Wks.refl _) (fun _ _ => h31 _ ?_)); exact rfl; exact rfl; cbv) | ((with_reducible refine callK_eq hA hP ?_ ?_ ?_ (Wks.refl _) (fun _ _ => h71 _ ?_)); exact rfl; exact rfl; cbv) | ((with_reducible refine hA.fin_pl _ _ _ ?_); cbv) | ((with_reducible refine hA.len _ _ _ _ _ fun z hz hb => ?_); cbv) | ((with_reducible refine hA.slen _ _ _ _ _ fun z hz hb => ?_); cbv) | ((with_reducible refine hA.off _ _ _ _ fun b hb => ?_); cbv) | ((with_reducible refine hA.plus _ _ _ fun b hb => ?_); cbv) | ((with_reducible refine hA.rep _ _ _ fun ds m hds hm => ?_); cbv) | ((with_reducible refine hA.app _ _ _ _ _ ⟨?_, fun zs m hzs hm => ?_⟩); rotate_left; cbv) | ((with_reducible refine hA.app0 _ _ _ ⟨?_, fun m hm => ?_⟩); rotate_left; cbv) | ((with_reducible refine hA.slc _ _ _ _ _ ⟨?_, fun zs hzs => ?_⟩); rotate_left; cbv) | ((with_reducible refine hA.st _ _ _ _ _ ⟨?_, fun ds hds => ?_⟩); rotate_left; cbv) | ((with_reducible refine hA.alt _ _ (Or.inl ?_)); cbv) | ((with_reducible refine hA.appv _ _ _ _ _ _ ⟨?_, fun bb m ds hbb hm hds => ?_⟩); rotate_left; cbv) | ((with_reducible refine hA.vsl _ _ _ _ ⟨?_, fun m hm => ?_⟩); rotate_left; cbv) | ((with_reducible refine hA.six _ _ _ ⟨?_, fun c hc hc2 => ?_⟩); rotate_left; cbv) | ((with_reducible refine hA.ssl _ _ _ _ ⟨?_, fun sl hsl => ?_⟩); rotate_left; cbv) | ((with_reducible refine hA.sapp _ _ _ ⟨?_, fun sl hsl => ?_⟩); rotate_left; cbv) | ((with_reducible refine hA.s2b _ _ fun es hes => ?_); cbv) | (simp only [hA.natLit, hA.natOf, hA.natCast]; cbv)
    all_goals try simp only [hA.add, hA.sub, hA.mul, hA.neg, hA.div, hA.mod, hA.mn, hA.mx, hA.eq, hA.lt, hA.le, hA.nat, hA.R, hA.lep, hA.ltp, hA.seq, inR, n_cast, Int.ofNat_eq_natCast, Option.getD_some, Option.getD_none] at *
    all_goals first | rfl | omega | grind)
set_option maxRecDepth 100000 in
theorem ok41 {l : List (Int × Int)} {row : List V} {es fs : List (List E)} (he : es = l.map orow) (hf : fs = row.map vr) (hlen : es.length ≤ 1048576) {v : V} {b : Bool} (h : EvR l row v b) :
    Plain Try.prog 41 [.e (.sl es), .e (.sl fs)] (.tup [dv v, .bool b]) := okOf mixed p41 fun A P hA hP => (by
  have hl1 : es.length = l.length := by rw [he]; simp
  have hl2 : fs.length = row.length := by rw [hf]; simp
  obtain ⟨h1, h2, h3⟩ := h
  have h31 : ∀ w : Int, w = row.length → Plain Try.prog 33 [.e (.sl es), .int w] (.bool b) := fun w hw => by rw [← h1, hw]; exact ok33 l es he hlen row.length
  obtain ⟨v1, v2⟩ := v
  cases b with
  | false =>
    have := h2 rfl
    cases this
    cbv
    repeat' first | with_reducible rfl | with_reducible refine And.intro ?_ ?_ | with_reducible intro _ | ((with_reducible show goC _ _ _ _ _ _ _ _); cbv) | ((with_reducible show goOps _ _ _ _ _); cbv) | ((with_reducible show okWr _ _ = _); rfl) | ((with_reducible refine callK_eq hA hP ?_ ?_ ?_ (Wks.refl _) (fun _ _ => h31 _ ?_)); exact rfl; exact rfl; cbv) | ((with_reducible refine hA.fin_pl _ _ _ ?_); cbv) | ((with_reducible refine hA.len _ _ _ _ _ fun z hz hb => ?_); cbv) | ((with_reducible refine hA.slen _ _ _ _ _ fun z hz hb => ?_); cbv) | ((with_reducible refine hA.off _ _ _ _ fun b hb => ?_); cbv) | ((with_reducible refine hA.plus _ _ _ fun b hb => ?_); cbv) | ((with_reducible refine hA.rep _ _ _ fun ds m hds hm => ?_); cbv) | ((with_reducible refine hA.app _ _ _ _ _ ⟨?_, fun zs m hzs hm => ?_⟩); rotate_left; cbv) | ((with_reducible refine hA.app0 _ _ _ ⟨?_, fun m hm => ?_⟩); rotate_left; cbv) | ((with_reducible refine hA.slc _ _ _ _ _ ⟨?_, fun zs hzs => ?_⟩); rotate_left; cbv) | ((with_reducible refine hA.st _ _ _ _ _ ⟨?_, fun ds hds => ?_⟩); rotate_left; cbv) | ((with_reducible refine hA.alt _ _ (Or.inl ?_)); cbv) | ((with_reducible refine hA.appv _ _ _ _ _ _ ⟨?_, fun bb m ds hbb hm hds => ?_⟩); rotate_left; cbv) | ((with_reducible refine hA.vsl _ _ _ _ ⟨?_, fun m hm => ?_⟩); rotate_left; cbv) | ((with_reducible refine hA.six _ _ _ ⟨?_, fun c hc hc2 => ?_⟩); rotate_left; cbv) | ((with_reducible refine hA.ssl _ _ _ _ ⟨?_, fun sl hsl => ?_⟩); rotate_left; cbv) | ((with_reducible refine hA.sapp _ _ _ ⟨?_, fun sl hsl => ?_⟩); rotate_left; cbv) | ((with_reducible refine hA.s2b _ _ fun es hes => ?_); cbv) | (simp only [hA.natLit, hA.natOf, hA.natCast]; cbv)
    all_goals try simp only [hA.add, hA.sub, hA.mul, hA.neg, hA.div, hA.mod, hA.mn, hA.mx, hA.eq, hA.lt, hA.le, hA.nat, hA.R, hA.lep, hA.ltp, hA.seq, inR, n_cast, Int.ofNat_eq_natCast, Option.getD_some, Option.getD_none] at *
    all_goals first | rfl | omega | grind
  | true =>
    obtain ⟨h4, h5⟩ := h3 rfl
    have h72 := ok72 he hf hlen h1 h5
    cbv
    repeat' first | with_reducible rfl | with_reducible refine And.intro ?_ ?_ | with_reducible intro _ | ((with_reducible show goC _ _ _ _ _ _ _ _); cbv) | ((with_reducible show goOps _ _ _ _ _); cbv) | ((with_reducible show okWr _ _ = _); rfl) | ((with_reducible refine callK_eq hA hP ?_ ?_ ?_ (Wks.refl _) (fun _ _ => h31 _ ?_)); exact rfl; exact rfl; cbv) | ((with_reducible refine callK_eq hA hP ?_ ?_ ?_ (Wks.refl _) (fun _ _ => h72)); exact rfl; exact rfl; cbv) | ((with_reducible refine hA.fin_pl _ _ _ ?_); cbv) | ((with_reducible refine hA.len _ _ _ _ _ fun z hz hb => ?_); cbv) | ((with_reducible refine hA.slen _ _ _ _ _ fun z hz hb => ?_); cbv) | ((with_reducible refine hA.off _ _ _ _ fun b hb => ?_); cbv) | ((with_reducible refine hA.plus _ _ _ fun b hb => ?_); cbv) | ((with_reducible refine hA.rep _ _ _ fun ds m hds hm => ?_); cbv) | ((with_reducible refine hA.app _ _ _ _ _ ⟨?_, fun zs m hzs hm => ?_⟩); rotate_left; cbv) | ((with_reducible refine hA.app0 _ _ _ ⟨?_, fun m hm => ?_⟩); rotate_left; cbv) | ((with_reducible refine hA.slc _ _ _ _ _ ⟨?_, fun zs hzs => ?_⟩); rotate_left; cbv) | ((with_reducible refine hA.st _ _ _ _ _ ⟨?_, fun ds hds => ?_⟩); rotate_left; cbv) | ((with_reducible refine hA.alt _ _ (Or.inl ?_)); cbv) | ((with_reducible refine hA.appv _ _ _ _ _ _ ⟨?_, fun bb m ds hbb hm hds => ?_⟩); rotate_left; cbv) | ((with_reducible refine hA.vsl _ _ _ _ ⟨?_, fun m hm => ?_⟩); rotate_left; cbv) | ((with_reducible refine hA.six _ _ _ ⟨?_, fun c hc hc2 => ?_⟩); rotate_left; cbv) | ((with_reducible refine hA.ssl _ _ _ _ ⟨?_, fun sl hsl => ?_⟩); rotate_left; cbv) | ((with_reducible refine hA.sapp _ _ _ ⟨?_, fun sl hsl => ?_⟩); rotate_left; cbv) | ((with_reducible refine hA.s2b _ _ fun es hes => ?_); cbv) | (simp only [hA.natLit, hA.natOf, hA.natCast]; cbv)
    all_goals try simp only [hA.add, hA.sub, hA.mul, hA.neg, hA.div, hA.mod, hA.mn, hA.mx, hA.eq, hA.lt, hA.le, hA.nat, hA.R, hA.lep, hA.ltp, hA.seq, inR, n_cast, Int.ofNat_eq_natCast, Option.getD_some, Option.getD_none] at *
    all_goals first | rfl | omega | grind)
set_option maxRecDepth 100000 in
theorem ok11 (l : List (Int × Int)) (row : List V) (es fs : List (List E)) (he : es = l.map orow) (hf : fs = row.map vr) : Plain Try.prog 11 [.e (.sl es), .e (.sl fs)] (.bool true) := okOf mixed p11 fun A P hA hP => (by
  have h1 := ok30 es 1048576 (by omega)
  by_cases c1 : (1048576 : Int) - es.length < 0
  · rw [if_pos c1] at h1
    cbv
    repeat' first | with_reducible rfl | with_reducible refine And.intro ?_ ?_ | with_reducible intro _ | ((with_reducible show goC _ _ _ _ _ _ _ _); cbv) | ((with_reducible show goOps _ _ _ _ _); cbv) | ((with_reducible show okWr _ _ = _); rfl) | ((with_reducible refine callK_eq hA hP ?_ ?_ ?_ (Wks.refl _) (fun _ _ => h1)); exact rfl; exact rfl; cbv) | ((with_reducible refine hA.fin_pl _ _ _ ?_); cbv) | ((with_reducible refine hA.len _ _ _ _ _ fun z hz hb => ?_); cbv) | ((with_reducible refine hA.slen _ _ _ _ _ fun z hz hb => ?_); cbv) | ((with_reducible refine hA.off _ _ _ _ fun b hb => ?_); cbv) | ((with_reducible refine hA.plus _ _ _ fun b hb => ?_); cbv) | ((with_reducible refine hA.rep _ _ _ fun ds m hds hm => ?_); cbv) | ((with_reducible refine hA.app _ _ _ _ _ ⟨?_, fun zs m hzs hm => ?_⟩); rotate_left; cbv) | ((with_reducible refine hA.app0 _ _ _ ⟨?_, fun m hm => ?_⟩); rotate_left; cbv) | ((with_reducible refine hA.slc _ _ _ _ _ ⟨?_, fun zs hzs => ?_⟩); rotate_left; cbv) | ((with_reducible refine hA.st _ _ _ _ _ ⟨?_, fun ds hds => ?_⟩); rotate_left; cbv) | ((with_reducible refine hA.alt _ _ (Or.inl ?_)); cbv) | ((with_reducible refine hA.appv _ _ _ _ _ _ ⟨?_, fun bb m ds hbb hm hds => ?_⟩); rotate_left; cbv) | ((with_reducible refine hA.vsl _ _ _ _ ⟨?_, fun m hm => ?_⟩); rotate_left; cbv) | ((with_reducible refine hA.six _ _ _ ⟨?_, fun c hc hc2 => ?_⟩); rotate_left; cbv) | ((with_reducible refine hA.ssl _ _ _ _ ⟨?_, fun sl hsl => ?_⟩); rotate_left; cbv) | ((with_reducible refine hA.sapp _ _ _ ⟨?_, fun sl hsl => ?_⟩); rotate_left; cbv) | ((with_reducible refine hA.s2b _ _ fun es hes => ?_); cbv) | (simp only [hA.natLit, hA.natOf, hA.natCast]; cbv)
    all_goals try simp only [hA.add, hA.sub, hA.mul, hA.neg, hA.div, hA.mod, hA.mn, hA.mx, hA.eq, hA.lt, hA.le, hA.nat, hA.R, hA.lep, hA.ltp, hA.seq, inR, n_cast, Int.ofNat_eq_natCast, Option.getD_some, Option.getD_none] at *
    all_goals grind
  · rw [if_neg c1] at h1
    obtain ⟨a, ha⟩ : ∃ a : Int, a = 1048576 - es.length := ⟨_, rfl⟩
    rw [← ha] at h1
    have h2 := ok25 fs a (by omega)
    by_cases c2 : a - fs.length < 0
    · rw [if_pos c2] at h2
      cbv
      repeat' first | with_reducible rfl | with_reducible refine And.intro ?_ ?_ | with_reducible intro _ | ((with_reducible show goC _ _ _ _ _ _ _ _); cbv) | ((with_reducible show goOps _ _ _ _ _); cbv) | ((with_reducible show okWr _ _ = _); rfl) | ((with_reducible refine callK_eq hA hP ?_ ?_ ?_ (Wks.refl _) (fun _ _ => h1)); exact rfl; exact rfl; cbv) | ((with_reducible refine callK_eq hA hP ?_ ?_ ?_ (Wks.refl _) (fun _ _ => h2)); exact rfl; exact rfl; cbv) | ((with_reducible refine hA.fin_pl _ _ _ ?_); cbv) | ((with_reducible refine hA.len _ _ _ _ _ fun z hz hb => ?_); cbv) | ((with_reducible refine hA.slen _ _ _ _ _ fun z hz hb => ?_); cbv) | ((with_reducible refine hA.off _ _ _ _ fun b hb => ?_); cbv) | ((with_reducible refine hA.plus _ _ _ fun b hb => ?_); cbv) | ((with_reducible refine hA.rep _ _ _ fun ds m hds hm => ?_); cbv) | ((with_reducible refine hA.app _ _ _ _ _ ⟨?_, fun zs m hzs hm => ?_⟩); rotate_left; cbv) | ((with_reducible refine hA.app0 _ _ _ ⟨?_, fun m hm => ?_⟩); rotate_left; cbv) | ((with_reducible refine hA.slc _ _ _ _ _ ⟨?_, fun zs hzs => ?_⟩); rotate_left; cbv) | ((with_reducible refine hA.st _ _ _ _ _ ⟨?_, fun ds hds => ?_⟩); rotate_left; cbv) | ((with_reducible refine hA.alt _ _ (Or.inl ?_)); cbv) | ((with_reducible refine hA.appv _ _ _ _ _ _ ⟨?_, fun bb m ds hbb hm hds => ?_⟩); rotate_left; cbv) | ((with_reducible refine hA.vsl _ _ _ _ ⟨?_, fun m hm => ?_⟩); rotate_left; cbv) | ((with_reducible refine hA.six _ _ _ ⟨?_, fun c hc hc2 => ?_⟩); rotate_left; cbv) | ((with_reducible refine hA.ssl _ _ _ _ ⟨?_, fun sl hsl => ?_⟩); rotate_left; cbv) | ((with_reducible refine hA.sapp _ _ _ ⟨?_, fun sl hsl => ?_⟩); rotate_left; cbv) | ((with_reducible refine hA.s2b _ _ fun es hes => ?_); cbv) | (simp only [hA.natLit, hA.natOf, hA.natCast]; cbv)
      all_goals try simp only [hA.add, hA.sub, hA.mul, hA.neg, hA.div, hA.mod, hA.mn, hA.mx, hA.eq, hA.lt, hA.le, hA.nat, hA.R, hA.lep, hA.ltp, hA.seq, inR, n_cast, Int.ofNat_eq_natCast, Option.getD_some, Option.getD_none] at *
      all_goals grind
    · rw [if_neg c2] at h2
      obtain ⟨b, hb⟩ : ∃ b : Int, b = a - fs.length := ⟨_, rfl⟩
      rw [← hb] at h2
      have h3 := ok32 l es he (by omega)
      have h4 := ok27 row fs hf (by omega)
      obtain ⟨⟨v1, v2⟩, c, hv⟩ := evR_ex l row
      have h5 := ok40 he hf (by omega) hv
      have h6 := ok41 he hf (by omega) hv
      have h7 := ok34 l l es es he he
      have h8 := ok29 row row fs fs hf hf
      have h9 := ok18 v1 v2 v1 v2
      rw [decide_eq_true rfl] at h7 h8
      rw [decide_eq_true (And.intro rfl rfl)] at h9
      cbv
      repeat' first | with_reducible rfl | with_reducible refine And.intro ?_ ?_ | with_reducible intro _ | ((with_reducible show goC _ _ _ _ _ _ _ _); cbv) | ((with_reducible show goOps _ _ _ _ _); cbv) | ((with_reducible show okWr _ _ = _); rfl) | ((with_reducible refine callK_eq hA hP ?_ ?_ ?_ (Wks.refl _) (fun _ _ => h1)); exact rfl; exact rfl; cbv) | ((with_reducible refine callK_eq hA hP ?_ ?_ ?_ (Wks.refl _) (fun _ _ => h2)); exact rfl; exact rfl; cbv) | ((with_reducible refine callK_eq hA hP ?_ ?_ ?_ (Wks.refl _) (fun _ _ => h3)); exact rfl; exact rfl; cbv) | ((with_reducible refine callK_eq hA hP ?_ ?_ ?_ (Wks.refl _) (fun _ _ => h4)); exact rfl; exact rfl; cbv) | ((with_reducible refine callK_eq hA hP ?_ ?_ ?_ (Wks.refl _) (fun _ _ => h5)); exact rfl; exact rfl; cbv) | ((with_reducible refine callK_eq hA hP ?_ ?_ ?_ (Wks.refl _) (fun _ _ => h6)); exact rfl; exact rfl; cbv) | ((with_reducible refine callK_eq hA hP ?_ ?_ ?_ (Wks.refl _) (fun _ _ => h7)); exact rfl; exact rfl; cbv) | ((with_reducible refine callK_eq hA hP ?_ ?_ ?_ (Wks.refl _) (fun _ _ => h8)); exact rfl; exact rfl; cbv) | ((with_reducible refine callK_eq hA hP ?_ ?_ ?_ (Wks.refl _) (fun _ _ => h9)); exact rfl; exact rfl; cbv) | ((with_reducible refine hA.fin_pl _ _ _ ?_); cbv) | ((with_reducible refine hA.len _ _ _ _ _ fun z hz hb => ?_); cbv) | ((with_reducible refine hA.slen _ _ _ _ _ fun z hz hb => ?_); cbv) | ((with_reducible refine hA.off _ _ _ _ fun b hb => ?_); cbv) | ((with_reducible refine hA.plus _ _ _ fun b hb => ?_); cbv) | ((with_reducible refine hA.rep _ _ _ fun ds m hds hm => ?_); cbv) | ((with_reducible refine hA.app _ _ _ _ _ ⟨?_, fun zs m hzs hm => ?_⟩); rotate_left; cbv) | ((with_reducible refine hA.app0 _ _ _ ⟨?_, fun m hm => ?_⟩); rotate_left; cbv) | ((with_reducible refine hA.slc _ _ _ _ _ ⟨?_, fun zs hzs => ?_⟩); rotate_left; cbv) | ((with_reducible refine hA.st _ _ _ _ _ ⟨?_, fun ds hds => ?_⟩); rotate_left; cbv) | ((with_reducible refine hA.alt _ _ (Or.inl ?_)); cbv) | ((with_reducible refine hA.appv _ _ _ _ _ _ ⟨?_, fun bb m ds hbb hm hds => ?_⟩); rotate_left; cbv) | ((with_reducible refine hA.vsl _ _ _ _ ⟨?_, fun m hm => ?_⟩); rotate_left; cbv) | ((with_reducible refine hA.six _ _ _ ⟨?_, fun c hc hc2 => ?_⟩); rotate_left; cbv) | ((with_reducible refine hA.ssl _ _ _ _ ⟨?_, fun sl hsl => ?_⟩); rotate_left; cbv) | ((with_reducible refine hA.sapp _ _ _ ⟨?_, fun sl hsl => ?_⟩); rotate_left; cbv) | ((with_reducible refine hA.s2b _ _ fun es hes => ?_); cbv) | (simp only [hA.natLit, hA.natOf, hA.natCast]; cbv)
      all_goals try simp only [hA.add, hA.sub, hA.mul, hA.neg, hA.div, hA.mod, hA.mn, hA.mx, hA.eq, hA.lt, hA.le, hA.nat, hA.R, hA.lep, hA.ltp, hA.seq, inR, n_cast, Int.ofNat_eq_natCast, Option.getD_some, Option.getD_none] at *
      all_goals first | rfl | (clear hv; grind))
end Go.Proofs.Ytmnhoglkahmlaaa.Ab
