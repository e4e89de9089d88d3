/- Expressions: which are valid, forwards and backwards. -/
import Derived.Test.YtmnhoglkahmlaaaV3
set_option linter.unusedSimpArgs false
set_option linter.unusedVariables false
set_option linter.unnecessarySimpa false
set_option linter.constructorNameAsVariable false
namespace Go.Proofs.Ytmnhoglkahmlaaa.Ab
open Go
/-- Forwards: how many values lie there behind all operations; -1: not valid. -/
def fw (w : Int) : List (Int × Int) → Int → Int
  | [], h => h
  | o :: r, h => if takes o w < 0 ∨ h < takes o w then -1 else fw w r (h + 1 - takes o w)
/-- Backwards from operation n - 1: where the expression begins; -1: nowhere. -/
def back (l : List (Int × Int)) (w : Int) : Nat → Int → Int
  | 0, need => if need ≤ 0 then 0 else -1
  | n + 1, need => if need ≤ 0 then n + 1 else if takes (l.getD n (0, 0)) w < 0 then -1 else back l w n (need - 1 + takes (l.getD n (0, 0)) w)
theorem fw_snoc (w : Int) (l : List (Int × Int)) (o : Int × Int) : ∀ h : Int, 0 ≤ h → fw w (l ++ [o]) h = if fw w l h < 0 then -1 else if takes o w < 0 ∨ fw w l h < takes o w then -1 else fw w l h + 1 - takes o w := by
  induction l with
  | nil => intro h h0; show (if takes o w < 0 ∨ h < takes o w then -1 else h + 1 - takes o w) = if h < 0 then -1 else _; rw [if_neg (show ¬ h < 0 by omega)]; rfl
  | cons p l ih =>
    intro h h0
    by_cases c : takes p w < 0 ∨ h < takes p w
    · have e1 : fw w (p :: l) h = -1 := if_pos c
      have e2 : fw w (p :: (l ++ [o])) h = -1 := if_pos c
      rw [List.cons_append, e1, e2]; rfl
    · have e1 : fw w (p :: l) h = fw w l (h + 1 - takes p w) := if_neg c
      have e2 : fw w (p :: (l ++ [o])) h = fw w (l ++ [o]) (h + 1 - takes p w) := if_neg c
      rw [List.cons_append, e1, e2]; exact ih _ (by omega)
theorem fw_ge (w : Int) (l : List (Int × Int)) : ∀ h : Int, 0 ≤ h → -1 ≤ fw w l h ∧ (l ≠ [] → fw w l h ≠ 0) := by
  induction l with
  | nil => intro h h0; simp only [fw]; exact ⟨by omega, fun e => absurd rfl e⟩
  | cons p l ih =>
    intro h h0
    simp only [fw]
    split
    · exact ⟨by omega, fun _ => by omega⟩
    · rename_i c
      obtain ⟨a, b⟩ := ih (h + 1 - takes p w) (by omega)
      refine ⟨a, fun _ => ?_⟩
      cases l with
      | nil => simp only [fw]; omega
      | cons q l => exact b (by simp)
theorem back_fw (w : Int) (l : List (Int × Int)) : ∀ (n : Nat), n ≤ l.length → ∀ need : Int, 1 ≤ need → (back l w n need = 0 ↔ fw w (l.take n) 0 = need) := by
  intro n
  induction n with
  | zero => intro _ need h; simp only [back, List.take_zero, fw]; rw [if_neg (by omega)]; omega
  | succ n ih =>
    intro hn need h
    have hlt : n < l.length := by omega
    have e1 : l.getD n (0, 0) = l[n] := by simp [List.getD, hlt]
    have e2 : l.take (n + 1) = l.take n ++ [l[n]] := by rw [List.take_add_one]; simp [hlt]
    obtain ⟨g1, g2⟩ := fw_ge w (l.take n) 0 (Int.le_refl _)
    have tl := takes_le l[n] w
    rw [e2, fw_snoc w _ _ 0 (Int.le_refl _)]
    simp only [back]
    rw [if_neg (by omega), e1]
    generalize takes l[n] w = t at *
    generalize hv : fw w (l.take n) 0 = v at *
    by_cases ct : t < 0
    · rw [if_pos ct, if_pos (show t < 0 ∨ v < t from .inl ct)]; split <;> omega
    · rw [if_neg ct]
      by_cases c2 : 1 ≤ need - 1 + t
      · rw [ih (by omega) _ c2]
        split
        · omega
        · split <;> omega
      · have hz : back l w n (need - 1 + t) = n := by
          cases n with
          | zero => simp only [back]; rw [if_pos (by omega)]; rfl
          | succ n => simp only [back]; rw [if_pos (by omega)]; rfl
        rw [hz]
        have hnn : (n + 1 : Int) ≠ 0 := by omega
        have hv0 : v = 0 ↔ n = 0 := by
          constructor
          · intro e
            rcases Nat.eq_zero_or_pos n with h0 | h0
            · exact h0
            · exact absurd e (g2 (fun e => by have q : (l.take n).length = 0 := (by rw [e]; rfl); rw [List.length_take] at q; omega))
          · intro e; subst e; simp [fw] at hv; exact hv.symm
        split
        · omega
        · split
          · omega
          · have : (n : Int) = 0 ↔ v = 0 := by omega
            omega
/-- Valid either way. -/
def exOk (l : List (Int × Int)) (w : Int) : Bool := decide (0 ≤ w ∧ 1 ≤ l.length ∧ l.length ≤ 5000 ∧ back l w l.length 1 = 0)
theorem exOk_fw (l : List (Int × Int)) (w : Int) : exOk l w = decide (l.length ≤ 5000 ∧ 0 ≤ w ∧ fw w l 0 = 1) := by
  have h := back_fw w l l.length (Nat.le_refl _) 1 (Int.le_refl _)
  rw [List.take_length] at h
  unfold exOk
  have : fw w l 0 = 1 → 1 ≤ l.length := fun e => by cases l <;> simp [fw] at e ⊢
  rw [decide_eq_decide]
  constructor
  · rintro ⟨a, b, c, d⟩; exact ⟨c, a, h.1 d⟩
  · rintro ⟨c, a, d⟩; exact ⟨a, this d, c, h.2 d⟩
set_option maxRecDepth 100000 in
theorem ok62 (l : List (Int × Int)) (es : List (List E)) (he : es = l.map orow) (hlen : es.length ≤ 1048576) (n : Nat) (hn : n ≤ l.length) (i w : Int) (hi : i = n - 1) : Plain Try.prog 62 [.e (.sl es), .int i, .int w] (.int (back l w n 1)) := okOf mixed p62 fun A P hA hP => (by
  have hl1 : es.length = l.length := by rw [he]; simp
  obtain ⟨r, hr⟩ : ∃ r, r = back l w n 1 := ⟨_, rfl⟩
  rw [← hr]
  cbv
  repeat' first | with_reducible rfl | with_reducible refine And.intro ?_ ?_ | ((with_reducible intro hcc); first | (cases hcc; done) | skip) | ((with_reducible show goC _ _ _ _ _ _ _ _); cbv) | ((with_reducible show goOps _ _ _ _ _); cbv) | ((with_reducible show okWr _ _ = _); rfl) | ((with_reducible refine hA.fin_pl _ _ _ ?_); cbv) | ((with_reducible refine hA.len _ _ _ _ _ fun z hz hb => ?_); cbv) | ((with_reducible refine hA.slen _ _ _ _ _ fun z hz hb => ?_); cbv) | ((with_reducible refine hA.off _ _ _ _ fun b hb => ?_); cbv) | ((with_reducible refine hA.plus _ _ _ fun b hb => ?_); cbv) | ((with_reducible refine hA.rep _ _ _ fun ds m hds hm => ?_); cbv) | ((with_reducible refine hA.app _ _ _ _ _ ⟨?_, fun zs m hzs hm => ?_⟩); rotate_left; cbv) | ((with_reducible refine hA.app0 _ _ _ ⟨?_, fun m hm => ?_⟩); rotate_left; cbv) | ((with_reducible refine hA.slc _ _ _ _ _ ⟨?_, fun zs hzs => ?_⟩); rotate_left; cbv) | ((with_reducible refine hA.st _ _ _ _ _ ⟨?_, fun ds hds => ?_⟩); rotate_left; cbv) | ((with_reducible refine hA.alt _ _ (Or.inl ?_)); cbv) | ((with_reducible refine hA.appv _ _ _ _ _ _ ⟨?_, fun bb m ds hbb hm hds => ?_⟩); rotate_left; cbv) | ((with_reducible refine hA.vsl _ _ _ _ ⟨?_, fun m hm => ?_⟩); rotate_left; cbv) | ((with_reducible refine hA.vcut _ _ _ _ ⟨?_, fun cs hcs => ?_⟩); rotate_left; cbv) | ((with_reducible refine hA.appw _ _ _ _ _ _ _ ⟨?_, fun bb m ds hbb hm hds => ?_⟩); rotate_left; cbv) | ((with_reducible refine hA.six _ _ _ fun z6 c hz6 hc hc2 => ?_); cbv) | ((with_reducible refine hA.ssl _ _ _ _ ⟨?_, fun sl hsl => ?_⟩); rotate_left; cbv) | ((with_reducible refine hA.sapp _ _ _ ⟨?_, fun sl hsl => ?_⟩); rotate_left; cbv) | ((with_reducible refine hA.s2b _ _ fun es hes => ?_); cbv) | ((with_reducible refine hA.gb0 true _ ?_); cbv) | ((with_reducible refine hA.gb0 false _ ?_); cbv) | ((with_reducible refine hA.gb _ _ fun vb hvb => ?_); cbv) | ((with_reducible refine hA.mget _ _ _ _ ⟨fun mv hmv => ?_, fun hmv => ?_⟩) <;> cbv) | ((with_reducible refine hA.mset _ _ _ _ fun ml hml => ?_); cbv) | (simp only [hA.natLit, hA.natOf, hA.natCast]; cbv)
  all_goals try simp only [hA.add, hA.sub, hA.mul, hA.neg, hA.div, hA.mod, hA.mn, hA.mx, hA.eq, hA.lt, hA.le, hA.nat, hA.R, hA.lep, hA.ltp, hA.seq, inR, n_cast, Int.ofNat_eq_natCast, Option.getD_some, Option.getD_none] at *
  refine hA.loopI (fun m s => ∃ (need i : Int), i = m - 1 ∧ m ≤ n ∧ 0 ≤ need ∧ need ≤ 1 + 2 * (n - m) ∧ r = back l w m need ∧ s = ⟨[(7, .int need), (1, .int i), (0, .e (.sl es)), (2, .int w)], []⟩) n _
    (Weak.keep (env' := [(7, .int 1), (1, .int i), (0, .e (.sl es)), (2, .int w)]) ⟨rfl, rfl, rfl, rfl, trivial⟩) ⟨1, i, hi, Nat.le_refl _, by omega, by omega, hr, rfl⟩ ?_
  rintro m s K ⟨need, i, hi, h0, h1, h2, h3, rfl⟩ hK
  cases m with
  | zero =>
    have hlt : A.lt i 0 = true := by rw [hA.lt]; simp [hi]
    have hr2 : r = if need ≤ 0 then 0 else -1 := h3
    clear h3
    cbv
    repeat' first | with_reducible rfl | with_reducible refine And.intro ?_ ?_ | ((with_reducible intro hcc); first | (cases hcc; done) | skip) | ((with_reducible show goC _ _ _ _ _ _ _ _); cbv) | ((with_reducible show goOps _ _ _ _ _); cbv) | ((with_reducible show okWr _ _ = _); rfl) | (simp only [hlt]; cbv) | ((with_reducible refine hA.row0 _ _ _ fun p row => ?_); cbv) | ((with_reducible refine callK_no hA (.int 0) ?_); cbv) | ((with_reducible refine hA.fin_pl _ _ _ ?_); cbv) | ((with_reducible refine hA.len _ _ _ _ _ fun z hz hb => ?_); cbv) | ((with_reducible refine hA.slen _ _ _ _ _ fun z hz hb => ?_); cbv) | ((with_reducible refine hA.off _ _ _ _ fun b hb => ?_); cbv) | ((with_reducible refine hA.plus _ _ _ fun b hb => ?_); cbv) | ((with_reducible refine hA.rep _ _ _ fun ds m hds hm => ?_); cbv) | ((with_reducible refine hA.app _ _ _ _ _ ⟨?_, fun zs m hzs hm => ?_⟩); rotate_left; cbv) | ((with_reducible refine hA.app0 _ _ _ ⟨?_, fun m hm => ?_⟩); rotate_left; cbv) | ((with_reducible refine hA.slc _ _ _ _ _ ⟨?_, fun zs hzs => ?_⟩); rotate_left; cbv) | ((with_reducible refine hA.st _ _ _ _ _ ⟨?_, fun ds hds => ?_⟩); rotate_left; cbv) | ((with_reducible refine hA.alt _ _ (Or.inl ?_)); cbv) | ((with_reducible refine hA.appv _ _ _ _ _ _ ⟨?_, fun bb m ds hbb hm hds => ?_⟩); rotate_left; cbv) | ((with_reducible refine hA.vsl _ _ _ _ ⟨?_, fun m hm => ?_⟩); rotate_left; cbv) | ((with_reducible refine hA.vcut _ _ _ _ ⟨?_, fun cs hcs => ?_⟩); rotate_left; cbv) | ((with_reducible refine hA.appw _ _ _ _ _ _ _ ⟨?_, fun bb m ds hbb hm hds => ?_⟩); rotate_left; cbv) | ((with_reducible refine hA.six _ _ _ fun z6 c hz6 hc hc2 => ?_); cbv) | ((with_reducible refine hA.ssl _ _ _ _ ⟨?_, fun sl hsl => ?_⟩); rotate_left; cbv) | ((with_reducible refine hA.sapp _ _ _ ⟨?_, fun sl hsl => ?_⟩); rotate_left; cbv) | ((with_reducible refine hA.s2b _ _ fun es hes => ?_); cbv) | ((with_reducible refine hA.gb0 true _ ?_); cbv) | ((with_reducible refine hA.gb0 false _ ?_); cbv) | ((with_reducible refine hA.gb _ _ fun vb hvb => ?_); cbv) | ((with_reducible refine hA.mget _ _ _ _ ⟨fun mv hmv => ?_, fun hmv => ?_⟩) <;> cbv) | ((with_reducible refine hA.mset _ _ _ _ fun ml hml => ?_); cbv) | (simp only [hA.natLit, hA.natOf, hA.natCast]; cbv)
    all_goals try simp only [hA.add, hA.sub, hA.mul, hA.neg, hA.div, hA.mod, hA.mn, hA.mx, hA.eq, hA.lt, hA.le, hA.nat, hA.R, hA.lep, hA.ltp, hA.seq, inR, n_cast, Int.ofNat_eq_natCast, Option.getD_some, Option.getD_none] at *
    all_goals first
      | (clear hK; grind; done)
      | (trace_state; fail)
  | succ m =>
    have hlt : A.lt i 0 = false := by rw [hA.lt]; simp [hi]
    have hm : m < l.length := by omega
    have hin : (0 : Int) ≤ i ∧ i < es.length := by omega
    obtain ⟨⟨k, v⟩, e1, q1⟩ := row_op he hin
    have e2 : l.getD m (0, 0) = (k, v) := by
      have : i.toNat = m := by omega
      rw [this] at q1
      simp [List.getD, q1]
    obtain ⟨tk, htk⟩ : ∃ tk, tk = takes (k, v) w := ⟨_, rfl⟩
    have h85 := ok85 k v w
    have tl := takes_le (k, v) w
    rw [← htk] at h85 tl
    have hr2 : r = if need ≤ 0 then ((m + 1 : Nat) : Int) else if tk < 0 then -1 else back l w m (need - 1 + tk) := by
      rw [h3, back, e2, ← htk]; rfl
    obtain ⟨b, hb⟩ : ∃ b, b = back l w m (need - 1 + tk) := ⟨_, rfl⟩
    rw [← hb] at hr2
    clear h3 hr htk
    cbv
    repeat' first | with_reducible rfl | with_reducible refine And.intro ?_ ?_ | ((with_reducible intro hcc); first | (cases hcc; done) | skip) | ((with_reducible show goC _ _ _ _ _ _ _ _); cbv) | ((with_reducible show goOps _ _ _ _ _); cbv) | ((with_reducible show okWr _ _ = _); rfl) | (simp only [hlt]; cbv) | ((with_reducible refine hA.row es _ _ ⟨hin, fun row hrow => ?_⟩); rw [e1] at hrow; subst hrow; cbv) | ((with_reducible refine callK_eq hA hP ?_ ?_ ?_ (Wks.refl _) (fun _ _ => h85)); exact rfl; exact rfl; cbv) | ((with_reducible refine hA.fin_pl _ _ _ ?_); cbv) | ((with_reducible refine hA.len _ _ _ _ _ fun z hz hb => ?_); cbv) | ((with_reducible refine hA.slen _ _ _ _ _ fun z hz hb => ?_); cbv) | ((with_reducible refine hA.off _ _ _ _ fun b hb => ?_); cbv) | ((with_reducible refine hA.plus _ _ _ fun b hb => ?_); cbv) | ((with_reducible refine hA.rep _ _ _ fun ds m hds hm => ?_); cbv) | ((with_reducible refine hA.app _ _ _ _ _ ⟨?_, fun zs m hzs hm => ?_⟩); rotate_left; cbv) | ((with_reducible refine hA.app0 _ _ _ ⟨?_, fun m hm => ?_⟩); rotate_left; cbv) | ((with_reducible refine hA.slc _ _ _ _ _ ⟨?_, fun zs hzs => ?_⟩); rotate_left; cbv) | ((with_reducible refine hA.st _ _ _ _ _ ⟨?_, fun ds hds => ?_⟩); rotate_left; cbv) | ((with_reducible refine hA.alt _ _ (Or.inl ?_)); cbv) | ((with_reducible refine hA.appv _ _ _ _ _ _ ⟨?_, fun bb m ds hbb hm hds => ?_⟩); rotate_left; cbv) | ((with_reducible refine hA.vsl _ _ _ _ ⟨?_, fun m hm => ?_⟩); rotate_left; cbv) | ((with_reducible refine hA.vcut _ _ _ _ ⟨?_, fun cs hcs => ?_⟩); rotate_left; cbv) | ((with_reducible refine hA.appw _ _ _ _ _ _ _ ⟨?_, fun bb m ds hbb hm hds => ?_⟩); rotate_left; cbv) | ((with_reducible refine hA.six _ _ _ fun z6 c hz6 hc hc2 => ?_); cbv) | ((with_reducible refine hA.ssl _ _ _ _ ⟨?_, fun sl hsl => ?_⟩); rotate_left; cbv) | ((with_reducible refine hA.sapp _ _ _ ⟨?_, fun sl hsl => ?_⟩); rotate_left; cbv) | ((with_reducible refine hA.s2b _ _ fun es hes => ?_); cbv) | ((with_reducible refine hA.gb0 true _ ?_); cbv) | ((with_reducible refine hA.gb0 false _ ?_); cbv) | ((with_reducible refine hA.gb _ _ fun vb hvb => ?_); cbv) | ((with_reducible refine hA.mget _ _ _ _ ⟨fun mv hmv => ?_, fun hmv => ?_⟩) <;> cbv) | ((with_reducible refine hA.mset _ _ _ _ fun ml hml => ?_); cbv) | (simp only [hA.natLit, hA.natOf, hA.natCast]; cbv)
    all_goals try simp only [hA.add, hA.sub, hA.mul, hA.neg, hA.div, hA.mod, hA.mn, hA.mx, hA.eq, hA.lt, hA.le, hA.nat, hA.R, hA.lep, hA.ltp, hA.seq, inR, n_cast, Int.ofNat_eq_natCast, Option.getD_some, Option.getD_none] at *
    all_goals first
      | omega
      | (clear hK; grind; done)
      | (refine hK _ m _ (by omega) (Weak.keep (env' := [(7, .int (need - 1 + tk)), (1, .int (i - 1)), (0, .e (.sl es)), (2, .int w)]) ⟨rfl, rfl, rfl, rfl, trivial⟩) ⟨need - 1 + tk, i - 1, by omega, by omega, by grind, by grind, by grind, rfl⟩)
      | (trace_state; fail))
end Go.Proofs.Ytmnhoglkahmlaaa.Ab
