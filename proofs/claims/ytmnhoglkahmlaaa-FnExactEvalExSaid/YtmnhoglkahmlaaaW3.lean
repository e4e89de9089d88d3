/- Expressions: the value, by the specification. -/
import Derived.Test.YtmnhoglkahmlaaaW2
set_option linter.unusedSimpArgs false
set_option linter.unusedVariables false
set_option linter.unnecessarySimpa false
set_option linter.constructorNameAsVariable false
namespace Go.Proofs.Ytmnhoglkahmlaaa.Ab
open Go
set_option maxRecDepth 100000 in
set_option maxHeartbeats 2000000 in
theorem ok71 {l : List (Int × Int)} {row : List V} {es fs : List (List E)} (he : es = l.map orow) (hf : fs = row.map vr) (hlen : es.length ≤ 1048576) {j e : Nat} {v : V} (hs : Seg l row j e v) :
    ∀ i : Int, i = e - 1 → Plain Try.prog 71 [.e (.sl es), .e (.sl fs), .int i] (dv v) := by
  have hl1 : es.length = l.length := by rw [he]; simp
  have hl2 : fs.length = row.length := by rw [hf]; simp
  induction hs with
  | @leaf e o h ht =>
    intro i hi
    refine okOf mixed p71 fun A P hA hP => ?_
    obtain ⟨k, n⟩ := o
    have hlt := (List.getElem?_eq_some_iff.1 h).1
    have hin : (0 : Int) ≤ i ∧ i < es.length := by omega
    obtain ⟨p, e1, q1⟩ := row_op he hin
    have : i.toNat = e := by omega
    rw [this, h] at q1
    cases q1
    rcases takes0 ht with rfl | ⟨rfl, rfl⟩ | ⟨rfl, h0, h1⟩
    · have hk : ∀ m : Int, A.eq 1 m = decide (1 = m) := hA.eq 1
      cbv
      repeat' first | with_reducible rfl | with_reducible refine And.intro ?_ ?_ | with_reducible intro _ | ((with_reducible show goC _ _ _ _ _ _ _ _); cbv) | ((with_reducible show goOps _ _ _ _ _); cbv) | ((with_reducible show okWr _ _ = _); rfl) | (simp only [hk]; cbv) | ((with_reducible refine hA.row es _ _ ⟨hin, fun row hrow => ?_⟩); rw [e1] at hrow; subst hrow; cbv) | ((with_reducible refine callK_eq hA hP ?_ ?_ ?_ (Wks.refl _) (fun _ _ => ok94 _)); exact rfl; exact rfl; cbv) | ((with_reducible refine hA.fin_pl _ _ _ ?_); cbv) | ((with_reducible refine hA.len _ _ _ _ _ fun z hz hb => ?_); cbv) | ((with_reducible refine hA.slen _ _ _ _ _ fun z hz hb => ?_); cbv) | ((with_reducible refine hA.off _ _ _ _ fun b hb => ?_); cbv) | ((with_reducible refine hA.plus _ _ _ fun b hb => ?_); cbv) | ((with_reducible refine hA.rep _ _ _ fun ds m hds hm => ?_); cbv) | ((with_reducible refine hA.app _ _ _ _ _ ⟨?_, fun zs m hzs hm => ?_⟩); rotate_left; cbv) | ((with_reducible refine hA.app0 _ _ _ ⟨?_, fun m hm => ?_⟩); rotate_left; cbv) | ((with_reducible refine hA.slc _ _ _ _ _ ⟨?_, fun zs hzs => ?_⟩); rotate_left; cbv) | ((with_reducible refine hA.st _ _ _ _ _ ⟨?_, fun ds hds => ?_⟩); rotate_left; cbv) | ((with_reducible refine hA.alt _ _ (Or.inl ?_)); cbv) | ((with_reducible refine hA.appv _ _ _ _ _ _ ⟨?_, fun bb m ds hbb hm hds => ?_⟩); rotate_left; cbv) | ((with_reducible refine hA.vsl _ _ _ _ ⟨?_, fun m hm => ?_⟩); rotate_left; cbv) | ((with_reducible refine hA.six _ _ _ ⟨?_, fun c hc hc2 => ?_⟩); rotate_left; cbv) | ((with_reducible refine hA.ssl _ _ _ _ ⟨?_, fun sl hsl => ?_⟩); rotate_left; cbv) | ((with_reducible refine hA.sapp _ _ _ ⟨?_, fun sl hsl => ?_⟩); rotate_left; cbv) | ((with_reducible refine hA.s2b _ _ fun es hes => ?_); cbv) | (simp only [hA.natLit, hA.natOf, hA.natCast]; cbv)
      all_goals try simp only [hA.add, hA.sub, hA.mul, hA.neg, hA.div, hA.mod, hA.mn, hA.mx, hA.eq, hA.lt, hA.le, hA.nat, hA.R, hA.lep, hA.ltp, hA.seq, inR, n_cast, Int.ofNat_eq_natCast, Option.getD_some, Option.getD_none] at *
      all_goals first | rfl | (clear ht; grind)
    · have hk : ∀ m : Int, A.eq 2 m = decide (2 = m) := hA.eq 2
      cbv
      repeat' first | with_reducible rfl | with_reducible refine And.intro ?_ ?_ | with_reducible intro _ | ((with_reducible show goC _ _ _ _ _ _ _ _); cbv) | ((with_reducible show goOps _ _ _ _ _); cbv) | ((with_reducible show okWr _ _ = _); rfl) | (simp only [hk]; cbv) | ((with_reducible refine hA.row es _ _ ⟨hin, fun row hrow => ?_⟩); rw [e1] at hrow; subst hrow; cbv) | ((with_reducible refine callK_eq hA hP ?_ ?_ ?_ (Wks.refl _) (fun _ _ => ok55 _ ?_)); exact rfl; exact rfl; cbv) | ((with_reducible refine hA.fin_pl _ _ _ ?_); cbv) | ((with_reducible refine hA.len _ _ _ _ _ fun z hz hb => ?_); cbv) | ((with_reducible refine hA.slen _ _ _ _ _ fun z hz hb => ?_); cbv) | ((with_reducible refine hA.off _ _ _ _ fun b hb => ?_); cbv) | ((with_reducible refine hA.plus _ _ _ fun b hb => ?_); cbv) | ((with_reducible refine hA.rep _ _ _ fun ds m hds hm => ?_); cbv) | ((with_reducible refine hA.app _ _ _ _ _ ⟨?_, fun zs m hzs hm => ?_⟩); rotate_left; cbv) | ((with_reducible refine hA.app0 _ _ _ ⟨?_, fun m hm => ?_⟩); rotate_left; cbv) | ((with_reducible refine hA.slc _ _ _ _ _ ⟨?_, fun zs hzs => ?_⟩); rotate_left; cbv) | ((with_reducible refine hA.st _ _ _ _ _ ⟨?_, fun ds hds => ?_⟩); rotate_left; cbv) | ((with_reducible refine hA.alt _ _ (Or.inl ?_)); cbv) | ((with_reducible refine hA.appv _ _ _ _ _ _ ⟨?_, fun bb m ds hbb hm hds => ?_⟩); rotate_left; cbv) | ((with_reducible refine hA.vsl _ _ _ _ ⟨?_, fun m hm => ?_⟩); rotate_left; cbv) | ((with_reducible refine hA.six _ _ _ ⟨?_, fun c hc hc2 => ?_⟩); rotate_left; cbv) | ((with_reducible refine hA.ssl _ _ _ _ ⟨?_, fun sl hsl => ?_⟩); rotate_left; cbv) | ((with_reducible refine hA.sapp _ _ _ ⟨?_, fun sl hsl => ?_⟩); rotate_left; cbv) | ((with_reducible refine hA.s2b _ _ fun es hes => ?_); cbv) | (simp only [hA.natLit, hA.natOf, hA.natCast]; cbv)
      all_goals try simp only [hA.add, hA.sub, hA.mul, hA.neg, hA.div, hA.mod, hA.mn, hA.mx, hA.eq, hA.lt, hA.le, hA.nat, hA.R, hA.lep, hA.ltp, hA.seq, inR, n_cast, Int.ofNat_eq_natCast, Option.getD_some, Option.getD_none] at *
      all_goals first | rfl | omega | (clear ht; grind) | (trace_state; fail)
    · have hk : ∀ m : Int, A.eq 3 m = decide (3 = m) := hA.eq 3
      have hin2 : (0 : Int) ≤ n ∧ n < fs.length := by simp only at h0 h1; omega
      obtain ⟨⟨b, x⟩, e2, q2⟩ := row_val hf hin2
      have hr : leafV (3, n) row = clean (b, x) := by simp [leafV, q2]
      rw [hr]
      obtain ⟨r, hr2⟩ : ∃ r, r = clean (b, x) := ⟨_, rfl⟩
      have h95 := ok95 b x
      rw [← hr2] at h95 ⊢
      cbv
      repeat' first | with_reducible rfl | with_reducible refine And.intro ?_ ?_ | with_reducible intro _ | ((with_reducible show goC _ _ _ _ _ _ _ _); cbv) | ((with_reducible show goOps _ _ _ _ _); cbv) | ((with_reducible show okWr _ _ = _); rfl) | (simp only [hk]; cbv) | ((with_reducible refine hA.row es _ _ ⟨hin, fun row hrow => ?_⟩); rw [e1] at hrow; subst hrow; cbv) | ((with_reducible refine hA.row fs _ _ ⟨hin2, fun row hrow => ?_⟩); rw [e2] at hrow; subst hrow; cbv) | ((with_reducible refine callK_eq hA hP ?_ ?_ ?_ (Wks.refl _) (fun _ _ => h95)); exact rfl; exact rfl; cbv) | ((with_reducible refine hA.fin_pl _ _ _ ?_); cbv) | ((with_reducible refine hA.len _ _ _ _ _ fun z hz hb => ?_); cbv) | ((with_reducible refine hA.slen _ _ _ _ _ fun z hz hb => ?_); cbv) | ((with_reducible refine hA.off _ _ _ _ fun b hb => ?_); cbv) | ((with_reducible refine hA.plus _ _ _ fun b hb => ?_); cbv) | ((with_reducible refine hA.rep _ _ _ fun ds m hds hm => ?_); cbv) | ((with_reducible refine hA.app _ _ _ _ _ ⟨?_, fun zs m hzs hm => ?_⟩); rotate_left; cbv) | ((with_reducible refine hA.app0 _ _ _ ⟨?_, fun m hm => ?_⟩); rotate_left; cbv) | ((with_reducible refine hA.slc _ _ _ _ _ ⟨?_, fun zs hzs => ?_⟩); rotate_left; cbv) | ((with_reducible refine hA.st _ _ _ _ _ ⟨?_, fun ds hds => ?_⟩); rotate_left; cbv) | ((with_reducible refine hA.alt _ _ (Or.inl ?_)); cbv) | ((with_reducible refine hA.appv _ _ _ _ _ _ ⟨?_, fun bb m ds hbb hm hds => ?_⟩); rotate_left; cbv) | ((with_reducible refine hA.vsl _ _ _ _ ⟨?_, fun m hm => ?_⟩); rotate_left; cbv) | ((with_reducible refine hA.six _ _ _ ⟨?_, fun c hc hc2 => ?_⟩); rotate_left; cbv) | ((with_reducible refine hA.ssl _ _ _ _ ⟨?_, fun sl hsl => ?_⟩); rotate_left; cbv) | ((with_reducible refine hA.sapp _ _ _ ⟨?_, fun sl hsl => ?_⟩); rotate_left; cbv) | ((with_reducible refine hA.s2b _ _ fun es hes => ?_); cbv) | (simp only [hA.natLit, hA.natOf, hA.natCast]; cbv)
      all_goals try simp only [hA.add, hA.sub, hA.mul, hA.neg, hA.div, hA.mod, hA.mn, hA.mx, hA.eq, hA.lt, hA.le, hA.nat, hA.R, hA.lep, hA.ltp, hA.seq, inR, n_cast, Int.ofNat_eq_natCast, Option.getD_some, Option.getD_none] at *
      all_goals first | rfl | omega | (clear ht; grind) | (trace_state; fail)
  | @un j e o b hb h ht ih =>
    intro i hi
    refine okOf mixed p71 fun A P hA hP => ?_
    obtain ⟨k, n⟩ := o
    have hlt := (List.getElem?_eq_some_iff.1 h).1
    have hin : (0 : Int) ≤ i ∧ i < es.length := by omega
    obtain ⟨p, e1, q1⟩ := row_op he hin
    have : i.toNat = e := by omega
    rw [this, h] at q1
    cases q1
    have hlj := hb.lt
    obtain ⟨b, x⟩ := b
    rcases takes1 ht with rfl | rfl
    · have hk : ∀ m : Int, A.eq 7 m = decide (7 = m) := hA.eq 7
      have h15 := ok15 b x
      have hr : unV (7, n) (b, x) = (b, if b = false ∧ x = 0 then 1 else 0) := rfl
      rw [hr]
      obtain ⟨y, hy⟩ : ∃ y : Int, y = if b = false ∧ x = 0 then 1 else 0 := ⟨_, rfl⟩
      rw [← hy] at h15 ⊢
      cbv
      repeat' first | with_reducible rfl | with_reducible refine And.intro ?_ ?_ | with_reducible intro _ | ((with_reducible show goC _ _ _ _ _ _ _ _); cbv) | ((with_reducible show goOps _ _ _ _ _); cbv) | ((with_reducible show okWr _ _ = _); rfl) | (simp only [hk]; cbv) | ((with_reducible refine hA.row es _ _ ⟨hin, fun row hrow => ?_⟩); rw [e1] at hrow; subst hrow; cbv) | ((with_reducible refine callK_eq hA hP ?_ ?_ ?_ (Wks.refl _) (fun _ _ => ih _ ?_)); exact rfl; exact rfl; cbv) | ((with_reducible refine callK_eq hA hP ?_ ?_ ?_ (Wks.refl _) (fun _ _ => h15)); exact rfl; exact rfl; cbv) | ((with_reducible refine hA.fin_pl _ _ _ ?_); cbv) | ((with_reducible refine hA.len _ _ _ _ _ fun z hz hb => ?_); cbv) | ((with_reducible refine hA.slen _ _ _ _ _ fun z hz hb => ?_); cbv) | ((with_reducible refine hA.off _ _ _ _ fun b hb => ?_); cbv) | ((with_reducible refine hA.plus _ _ _ fun b hb => ?_); cbv) | ((with_reducible refine hA.rep _ _ _ fun ds m hds hm => ?_); cbv) | ((with_reducible refine hA.app _ _ _ _ _ ⟨?_, fun zs m hzs hm => ?_⟩); rotate_left; cbv) | ((with_reducible refine hA.app0 _ _ _ ⟨?_, fun m hm => ?_⟩); rotate_left; cbv) | ((with_reducible refine hA.slc _ _ _ _ _ ⟨?_, fun zs hzs => ?_⟩); rotate_left; cbv) | ((with_reducible refine hA.st _ _ _ _ _ ⟨?_, fun ds hds => ?_⟩); rotate_left; cbv) | ((with_reducible refine hA.alt _ _ (Or.inl ?_)); cbv) | ((with_reducible refine hA.appv _ _ _ _ _ _ ⟨?_, fun bb m ds hbb hm hds => ?_⟩); rotate_left; cbv) | ((with_reducible refine hA.vsl _ _ _ _ ⟨?_, fun m hm => ?_⟩); rotate_left; cbv) | ((with_reducible refine hA.six _ _ _ ⟨?_, fun c hc hc2 => ?_⟩); rotate_left; cbv) | ((with_reducible refine hA.ssl _ _ _ _ ⟨?_, fun sl hsl => ?_⟩); rotate_left; cbv) | ((with_reducible refine hA.sapp _ _ _ ⟨?_, fun sl hsl => ?_⟩); rotate_left; cbv) | ((with_reducible refine hA.s2b _ _ fun es hes => ?_); cbv) | (simp only [hA.natLit, hA.natOf, hA.natCast]; cbv)
      all_goals try simp only [hA.add, hA.sub, hA.mul, hA.neg, hA.div, hA.mod, hA.mn, hA.mx, hA.eq, hA.lt, hA.le, hA.nat, hA.R, hA.lep, hA.ltp, hA.seq, inR, n_cast, Int.ofNat_eq_natCast, Option.getD_some, Option.getD_none] at *
      all_goals first | rfl | omega | (clear ht; grind) | (trace_state; fail)
    · have hk : ∀ m : Int, A.eq 8 m = decide (8 = m) := hA.eq 8
      have hr : unV (8, n) (b, x) = (false, if b then 1 else 0) := rfl
      rw [hr]
      cases b
      all_goals
        cbv
        repeat' first | with_reducible rfl | with_reducible refine And.intro ?_ ?_ | with_reducible intro _ | ((with_reducible show goC _ _ _ _ _ _ _ _); cbv) | ((with_reducible show goOps _ _ _ _ _); cbv) | ((with_reducible show okWr _ _ = _); rfl) | (simp only [hk]; cbv) | ((with_reducible refine hA.row es _ _ ⟨hin, fun row hrow => ?_⟩); rw [e1] at hrow; subst hrow; cbv) | ((with_reducible refine callK_eq hA hP ?_ ?_ ?_ (Wks.refl _) (fun _ _ => ih _ ?_)); exact rfl; exact rfl; cbv) | ((with_reducible refine callK_eq hA hP ?_ ?_ ?_ (Wks.refl _) (fun _ _ => ok55 _ ?_)); exact rfl; exact rfl; cbv) | ((with_reducible refine hA.fin_pl _ _ _ ?_); cbv) | ((with_reducible refine hA.len _ _ _ _ _ fun z hz hb => ?_); cbv) | ((with_reducible refine hA.slen _ _ _ _ _ fun z hz hb => ?_); cbv) | ((with_reducible refine hA.off _ _ _ _ fun b hb => ?_); cbv) | ((with_reducible refine hA.plus _ _ _ fun b hb => ?_); cbv) | ((with_reducible refine hA.rep _ _ _ fun ds m hds hm => ?_); cbv) | ((with_reducible refine hA.app _ _ _ _ _ ⟨?_, fun zs m hzs hm => ?_⟩); rotate_left; cbv) | ((with_reducible refine hA.app0 _ _ _ ⟨?_, fun m hm => ?_⟩); rotate_left; cbv) | ((with_reducible refine hA.slc _ _ _ _ _ ⟨?_, fun zs hzs => ?_⟩); rotate_left; cbv) | ((with_reducible refine hA.st _ _ _ _ _ ⟨?_, fun ds hds => ?_⟩); rotate_left; cbv) | ((with_reducible refine hA.alt _ _ (Or.inl ?_)); cbv) | ((with_reducible refine hA.appv _ _ _ _ _ _ ⟨?_, fun bb m ds hbb hm hds => ?_⟩); rotate_left; cbv) | ((with_reducible refine hA.vsl _ _ _ _ ⟨?_, fun m hm => ?_⟩); rotate_left; cbv) | ((with_reducible refine hA.six _ _ _ ⟨?_, fun c hc hc2 => ?_⟩); rotate_left; cbv) | ((with_reducible refine hA.ssl _ _ _ _ ⟨?_, fun sl hsl => ?_⟩); rotate_left; cbv) | ((with_reducible refine hA.sapp _ _ _ ⟨?_, fun sl hsl => ?_⟩); rotate_left; cbv) | ((with_reducible refine hA.s2b _ _ fun es hes => ?_); cbv) | (simp only [hA.natLit, hA.natOf, hA.natCast]; cbv)
        all_goals try simp only [hA.add, hA.sub, hA.mul, hA.neg, hA.div, hA.mod, hA.mn, hA.mx, hA.eq, hA.lt, hA.le, hA.nat, hA.R, hA.lep, hA.ltp, hA.seq, inR, n_cast, Int.ofNat_eq_natCast, Option.getD_some, Option.getD_none] at *
        all_goals first | rfl | omega | (clear ht; grind) | (trace_state; fail)
  | @bin j m e o a b ha hb h ht iha ihb =>
    intro i hi
    refine okOf mixed p71 fun A P hA hP => ?_
    obtain ⟨k, n⟩ := o
    have hlt := (List.getElem?_eq_some_iff.1 h).1
    have hin : (0 : Int) ≤ i ∧ i < es.length := by omega
    obtain ⟨p, e1, q1⟩ := row_op he hin
    have : i.toNat = e := by omega
    rw [this, h] at q1
    cases q1
    have hla := ha.lt
    have hlb := hb.lt
    obtain ⟨a, x⟩ := a
    obtain ⟨b, y⟩ := b
    have h62 : ∀ i' w : Int, i' = e - 1 → w = row.length → Plain Try.prog 62 [.e (.sl es), .int i', .int w] (.int m) := fun i' w hi' hw => by
      have := ok62 l es he hlen e (by omega) i' w hi'
      subst hw
      rw [hb.back 1 (Int.le_refl _), show (1 : Int) - 1 = 0 from rfl, back_zero] at this
      exact this
    obtain ⟨r, hr⟩ : ∃ r, r = binV (k, n) (a, x) (b, y) := ⟨_, rfl⟩
    obtain ⟨⟨r1, r2⟩, hr'⟩ : ∃ r', r = r' := ⟨_, rfl⟩
    rcases takes2 ht with rfl | rfl | rfl
    · have hk : ∀ m : Int, A.eq 4 m = decide (4 = m) := hA.eq 4
      have h19 : Plain Try.prog 19 [.int n, dVal a x, dVal b y] (dVal r1 r2) := by
        have : (r1, r2) = triV (cm n a x b y) := by rw [← hr', hr]; rfl
        have q := ok19 n a x b y
        cases this; exact q
      rw [← hr, hr']
      clear hr hr'
      cbv
      repeat' first | with_reducible rfl | with_reducible refine And.intro ?_ ?_ | with_reducible intro _ | ((with_reducible show goC _ _ _ _ _ _ _ _); cbv) | ((with_reducible show goOps _ _ _ _ _); cbv) | ((with_reducible show okWr _ _ = _); rfl) | (simp only [hk]; cbv) | ((with_reducible refine hA.row es _ _ ⟨hin, fun row hrow => ?_⟩); rw [e1] at hrow; subst hrow; cbv) | ((with_reducible refine callK_eq hA hP ?_ ?_ ?_ (Wks.refl _) (fun _ _ => ihb (A.sub i 1) ?_)); exact rfl; exact rfl; cbv) | ((with_reducible refine callK_eq hA hP ?_ ?_ ?_ (Wks.refl _) (fun _ _ => h62 _ _ ?_ ?_)); exact rfl; exact rfl; cbv) | ((with_reducible refine callK_eq hA hP ?_ ?_ ?_ (Wks.refl _) (fun _ _ => iha (A.sub (Int.ofNat m) 1) ?_)); exact rfl; exact rfl; cbv) | ((with_reducible refine callK_eq hA hP ?_ ?_ ?_ (Wks.refl _) (fun _ _ => h19)); exact rfl; exact rfl; cbv) | ((with_reducible refine hA.fin_pl _ _ _ ?_); cbv) | ((with_reducible refine hA.len _ _ _ _ _ fun z hz hb => ?_); cbv) | ((with_reducible refine hA.slen _ _ _ _ _ fun z hz hb => ?_); cbv) | ((with_reducible refine hA.off _ _ _ _ fun b hb => ?_); cbv) | ((with_reducible refine hA.plus _ _ _ fun b hb => ?_); cbv) | ((with_reducible refine hA.rep _ _ _ fun ds m hds hm => ?_); cbv) | ((with_reducible refine hA.app _ _ _ _ _ ⟨?_, fun zs m hzs hm => ?_⟩); rotate_left; cbv) | ((with_reducible refine hA.app0 _ _ _ ⟨?_, fun m hm => ?_⟩); rotate_left; cbv) | ((with_reducible refine hA.slc _ _ _ _ _ ⟨?_, fun zs hzs => ?_⟩); rotate_left; cbv) | ((with_reducible refine hA.st _ _ _ _ _ ⟨?_, fun ds hds => ?_⟩); rotate_left; cbv) | ((with_reducible refine hA.alt _ _ (Or.inl ?_)); cbv) | ((with_reducible refine hA.appv _ _ _ _ _ _ ⟨?_, fun bb m ds hbb hm hds => ?_⟩); rotate_left; cbv) | ((with_reducible refine hA.vsl _ _ _ _ ⟨?_, fun m hm => ?_⟩); rotate_left; cbv) | ((with_reducible refine hA.six _ _ _ ⟨?_, fun c hc hc2 => ?_⟩); rotate_left; cbv) | ((with_reducible refine hA.ssl _ _ _ _ ⟨?_, fun sl hsl => ?_⟩); rotate_left; cbv) | ((with_reducible refine hA.sapp _ _ _ ⟨?_, fun sl hsl => ?_⟩); rotate_left; cbv) | ((with_reducible refine hA.s2b _ _ fun es hes => ?_); cbv) | (simp only [hA.natLit, hA.natOf, hA.natCast]; cbv)
      all_goals try simp only [hA.add, hA.sub, hA.mul, hA.neg, hA.div, hA.mod, hA.mn, hA.mx, hA.eq, hA.lt, hA.le, hA.nat, hA.R, hA.lep, hA.ltp, hA.seq, inR, n_cast, Int.ofNat_eq_natCast, Option.getD_some, Option.getD_none] at *
      all_goals first | rfl | omega | (clear ht; grind) | (trace_state; fail)
    · have hk : ∀ m : Int, A.eq 5 m = decide (5 = m) := hA.eq 5
      have h19 : Plain Try.prog 21 [dVal a x, dVal b y] (dVal r1 r2) := by
        have : (r1, r2) = triV (min (tr a x) (tr b y)) := by rw [← hr', hr]; rfl
        have q := ok21 a x b y
        cases this; exact q
      rw [← hr, hr']
      clear hr hr'
      cbv
      repeat' first | with_reducible rfl | with_reducible refine And.intro ?_ ?_ | with_reducible intro _ | ((with_reducible show goC _ _ _ _ _ _ _ _); cbv) | ((with_reducible show goOps _ _ _ _ _); cbv) | ((with_reducible show okWr _ _ = _); rfl) | (simp only [hk]; cbv) | ((with_reducible refine hA.row es _ _ ⟨hin, fun row hrow => ?_⟩); rw [e1] at hrow; subst hrow; cbv) | ((with_reducible refine callK_eq hA hP ?_ ?_ ?_ (Wks.refl _) (fun _ _ => ihb (A.sub i 1) ?_)); exact rfl; exact rfl; cbv) | ((with_reducible refine callK_eq hA hP ?_ ?_ ?_ (Wks.refl _) (fun _ _ => h62 _ _ ?_ ?_)); exact rfl; exact rfl; cbv) | ((with_reducible refine callK_eq hA hP ?_ ?_ ?_ (Wks.refl _) (fun _ _ => iha (A.sub (Int.ofNat m) 1) ?_)); exact rfl; exact rfl; cbv) | ((with_reducible refine callK_eq hA hP ?_ ?_ ?_ (Wks.refl _) (fun _ _ => h19)); exact rfl; exact rfl; cbv) | ((with_reducible refine hA.fin_pl _ _ _ ?_); cbv) | ((with_reducible refine hA.len _ _ _ _ _ fun z hz hb => ?_); cbv) | ((with_reducible refine hA.slen _ _ _ _ _ fun z hz hb => ?_); cbv) | ((with_reducible refine hA.off _ _ _ _ fun b hb => ?_); cbv) | ((with_reducible refine hA.plus _ _ _ fun b hb => ?_); cbv) | ((with_reducible refine hA.rep _ _ _ fun ds m hds hm => ?_); cbv) | ((with_reducible refine hA.app _ _ _ _ _ ⟨?_, fun zs m hzs hm => ?_⟩); rotate_left; cbv) | ((with_reducible refine hA.app0 _ _ _ ⟨?_, fun m hm => ?_⟩); rotate_left; cbv) | ((with_reducible refine hA.slc _ _ _ _ _ ⟨?_, fun zs hzs => ?_⟩); rotate_left; cbv) | ((with_reducible refine hA.st _ _ _ _ _ ⟨?_, fun ds hds => ?_⟩); rotate_left; cbv) | ((with_reducible refine hA.alt _ _ (Or.inl ?_)); cbv) | ((with_reducible refine hA.appv _ _ _ _ _ _ ⟨?_, fun bb m ds hbb hm hds => ?_⟩); rotate_left; cbv) | ((with_reducible refine hA.vsl _ _ _ _ ⟨?_, fun m hm => ?_⟩); rotate_left; cbv) | ((with_reducible refine hA.six _ _ _ ⟨?_, fun c hc hc2 => ?_⟩); rotate_left; cbv) | ((with_reducible refine hA.ssl _ _ _ _ ⟨?_, fun sl hsl => ?_⟩); rotate_left; cbv) | ((with_reducible refine hA.sapp _ _ _ ⟨?_, fun sl hsl => ?_⟩); rotate_left; cbv) | ((with_reducible refine hA.s2b _ _ fun es hes => ?_); cbv) | (simp only [hA.natLit, hA.natOf, hA.natCast]; cbv)
      all_goals try simp only [hA.add, hA.sub, hA.mul, hA.neg, hA.div, hA.mod, hA.mn, hA.mx, hA.eq, hA.lt, hA.le, hA.nat, hA.R, hA.lep, hA.ltp, hA.seq, inR, n_cast, Int.ofNat_eq_natCast, Option.getD_some, Option.getD_none] at *
      all_goals first | rfl | omega | (clear ht; grind) | (trace_state; fail)
    · have hk : ∀ m : Int, A.eq 6 m = decide (6 = m) := hA.eq 6
      have h19 : Plain Try.prog 23 [dVal a x, dVal b y] (dVal r1 r2) := by
        have : (r1, r2) = triV (max (tr a x) (tr b y)) := by rw [← hr', hr]; rfl
        have q := ok23 a x b y
        cases this; exact q
      rw [← hr, hr']
      clear hr hr'
      cbv
      repeat' first | with_reducible rfl | with_reducible refine And.intro ?_ ?_ | with_reducible intro _ | ((with_reducible show goC _ _ _ _ _ _ _ _); cbv) | ((with_reducible show goOps _ _ _ _ _); cbv) | ((with_reducible show okWr _ _ = _); rfl) | (simp only [hk]; cbv) | ((with_reducible refine hA.row es _ _ ⟨hin, fun row hrow => ?_⟩); rw [e1] at hrow; subst hrow; cbv) | ((with_reducible refine callK_eq hA hP ?_ ?_ ?_ (Wks.refl _) (fun _ _ => ihb (A.sub i 1) ?_)); exact rfl; exact rfl; cbv) | ((with_reducible refine callK_eq hA hP ?_ ?_ ?_ (Wks.refl _) (fun _ _ => h62 _ _ ?_ ?_)); exact rfl; exact rfl; cbv) | ((with_reducible refine callK_eq hA hP ?_ ?_ ?_ (Wks.refl _) (fun _ _ => iha (A.sub (Int.ofNat m) 1) ?_)); exact rfl; exact rfl; cbv) | ((with_reducible refine callK_eq hA hP ?_ ?_ ?_ (Wks.refl _) (fun _ _ => h19)); exact rfl; exact rfl; cbv) | ((with_reducible refine hA.fin_pl _ _ _ ?_); cbv) | ((with_reducible refine hA.len _ _ _ _ _ fun z hz hb => ?_); cbv) | ((with_reducible refine hA.slen _ _ _ _ _ fun z hz hb => ?_); cbv) | ((with_reducible refine hA.off _ _ _ _ fun b hb => ?_); cbv) | ((with_reducible refine hA.plus _ _ _ fun b hb => ?_); cbv) | ((with_reducible refine hA.rep _ _ _ fun ds m hds hm => ?_); cbv) | ((with_reducible refine hA.app _ _ _ _ _ ⟨?_, fun zs m hzs hm => ?_⟩); rotate_left; cbv) | ((with_reducible refine hA.app0 _ _ _ ⟨?_, fun m hm => ?_⟩); rotate_left; cbv) | ((with_reducible refine hA.slc _ _ _ _ _ ⟨?_, fun zs hzs => ?_⟩); rotate_left; cbv) | ((with_reducible refine hA.st _ _ _ _ _ ⟨?_, fun ds hds => ?_⟩); rotate_left; cbv) | ((with_reducible refine hA.alt _ _ (Or.inl ?_)); cbv) | ((with_reducible refine hA.appv _ _ _ _ _ _ ⟨?_, fun bb m ds hbb hm hds => ?_⟩); rotate_left; cbv) | ((with_reducible refine hA.vsl _ _ _ _ ⟨?_, fun m hm => ?_⟩); rotate_left; cbv) | ((with_reducible refine hA.six _ _ _ ⟨?_, fun c hc hc2 => ?_⟩); rotate_left; cbv) | ((with_reducible refine hA.ssl _ _ _ _ ⟨?_, fun sl hsl => ?_⟩); rotate_left; cbv) | ((with_reducible refine hA.sapp _ _ _ ⟨?_, fun sl hsl => ?_⟩); rotate_left; cbv) | ((with_reducible refine hA.s2b _ _ fun es hes => ?_); cbv) | (simp only [hA.natLit, hA.natOf, hA.natCast]; cbv)
      all_goals try simp only [hA.add, hA.sub, hA.mul, hA.neg, hA.div, hA.mod, hA.mn, hA.mx, hA.eq, hA.lt, hA.le, hA.nat, hA.R, hA.lep, hA.ltp, hA.seq, inR, n_cast, Int.ofNat_eq_natCast, Option.getD_some, Option.getD_none] at *
      all_goals first | rfl | omega | (clear ht; grind) | (trace_state; fail)
end Go.Proofs.Ytmnhoglkahmlaaa.Ab
