/- Expressions: their values. -/
import Derived.Test.YtmnhoglkahmlaaaV5
import Derived.Test.YtmnhoglkahmlaaaW1
import Derived.Test.YtmnhoglkahmlaaaT6
import Derived.Test.YtmnhoglkahmlaaaU5
set_option linter.unusedSimpArgs false
set_option linter.unusedVariables false
set_option linter.unnecessarySimpa false
set_option linter.constructorNameAsVariable false
namespace Go.Proofs.Ytmnhoglkahmlaaa.Ab
open Go
abbrev V := Bool × Int
abbrev dv (p : V) : D := dVal p.1 p.2
abbrev triV (k : Int) : V := (decide (k = 1), if k = 1 then 0 else k / 2)
def clean (p : V) : V := if p.1 then (true, 0) else p
def leafV (o : Int × Int) (row : List V) : V := if o.1 = 1 then (false, o.2) else if o.1 = 2 then (true, 0) else clean (row.getD o.2.toNat (false, 0))
def unV (o : Int × Int) (b : V) : V := if o.1 = 7 then (b.1, if b.1 = false ∧ b.2 = 0 then 1 else 0) else (false, if b.1 then 1 else 0)
def binV (o : Int × Int) (a b : V) : V := if o.1 = 4 then triV (cm o.2 a.1 a.2 b.1 b.2) else if o.1 = 5 then triV (min (tr a.1 a.2) (tr b.1 b.2)) else triV (max (tr a.1 a.2) (tr b.1 b.2))
theorem takes0 {o : Int × Int} {w : Int} (h : takes o w = 0) : o.1 = 1 ∨ (o.1 = 2 ∧ o.2 = 0) ∨ (o.1 = 3 ∧ 0 ≤ o.2 ∧ o.2 < w) := by unfold takes at h; grind
theorem takes1 {o : Int × Int} {w : Int} (h : takes o w = 1) : o.1 = 7 ∨ o.1 = 8 := by unfold takes at h; grind
theorem takes2 {o : Int × Int} {w : Int} (h : takes o w = 2) : o.1 = 4 ∨ o.1 = 5 ∨ o.1 = 6 := by unfold takes at h; grind

/-- Operations j to e - 1 are an expression with a value. -/
inductive Seg (l : List (Int × Int)) (row : List V) : Nat → Nat → V → Prop
  | leaf {e o} (h : l[e]? = some o) (ht : takes o row.length = 0) : Seg l row e (e + 1) (leafV o row)
  | un {j e o b} (hb : Seg l row j e b) (h : l[e]? = some o) (ht : takes o row.length = 1) : Seg l row j (e + 1) (unV o b)
  | bin {j m e o a b} (ha : Seg l row j m a) (hb : Seg l row m e b) (h : l[e]? = some o) (ht : takes o row.length = 2) : Seg l row j (e + 1) (binV o a b)

theorem Seg.lt {l row j e v} (h : Seg l row j e v) : j < e ∧ e ≤ l.length := by
  induction h with
  | leaf h _ => exact ⟨by omega, (List.getElem?_eq_some_iff.1 h).1⟩
  | un _ h _ ih => exact ⟨by omega, (List.getElem?_eq_some_iff.1 h).1⟩
  | bin _ _ h _ ih ih' => exact ⟨by omega, (List.getElem?_eq_some_iff.1 h).1⟩

theorem back_zero (l : List (Int × Int)) (w : Int) (j : Nat) : back l w j 0 = j := by cases j <;> rfl

theorem back_succ {l : List (Int × Int)} {w : Int} {e : Nat} {o : Int × Int} (h : l[e]? = some o) (h0 : 0 ≤ takes o w) {need : Int} (hn : 1 ≤ need) : back l w (e + 1) need = back l w e (need - 1 + takes o w) := by
  have e1 : l.getD e (0, 0) = o := by simp [List.getD, h]
  rw [back, if_neg (by omega), e1, if_neg (by omega)]

theorem Seg.back {l row j e v} (h : Seg l row j e v) : ∀ need : Int, 1 ≤ need → back l row.length e need = Ab.back l row.length j (need - 1) := by
  induction h with
  | leaf h ht => intro need hn; rw [back_succ h (by omega) hn, ht, Int.add_zero]
  | un _ h ht ih =>
    intro need hn
    rw [back_succ h (by omega) hn, ht, show need - 1 + 1 = need by omega]
    exact ih need hn
  | bin _ _ h ht ih ih' =>
    intro need hn
    rw [back_succ h (by omega) hn, ht, show need - 1 + 2 = need + 1 by omega, ih' (need + 1) (by omega), show need + 1 - 1 = need by omega]
    exact ih need hn

/-- The values on the stack: the last first. -/
inductive Stk (l : List (Int × Int)) (row : List V) : Nat → List V → Prop
  | nil : Stk l row 0 []
  | cons {j e v st} (h : Stk l row j st) (s : Seg l row j e v) : Stk l row e (v :: st)

def step (row : List V) (o : Int × Int) (st : List V) : List V :=
  if takes o row.length = 0 then leafV o row :: st
  else if takes o row.length = 1 then (match st with | b :: r => unV o b :: r | _ => [])
  else (match st with | b :: a :: r => binV o a b :: r | _ => [])

def stk (l : List (Int × Int)) (row : List V) : Nat → List V
  | 0 => []
  | n + 1 => step row (l.getD n (0, 0)) (stk l row n)

theorem Stk.pop {l row n s} (h : Stk l row n s) : (s = [] ∧ n = 0) ∨ ∃ j v st, s = v :: st ∧ Stk l row j st ∧ Seg l row j n v := by
  cases h with
  | nil => exact .inl ⟨rfl, rfl⟩
  | cons q r => exact .inr ⟨_, _, _, rfl, q, r⟩

theorem stk_ok (l : List (Int × Int)) (row : List V) : ∀ n : Nat, n ≤ l.length → 0 ≤ fw row.length (l.take n) 0 → Stk l row n (stk l row n) ∧ ((stk l row n).length : Int) = fw row.length (l.take n) 0 := by
  intro n
  induction n with
  | zero => intro _ _; exact ⟨.nil, rfl⟩
  | succ n ih =>
    intro hn h
    have hlt : n < l.length := by omega
    have e0 : l[n]? = some l[n] := by simp [hlt]
    have e1 : l.getD n (0, 0) = l[n] := by simp [List.getD, hlt]
    have e2 : l.take (n + 1) = l.take n ++ [l[n]] := by rw [List.take_add_one]; simp [hlt]
    rw [e2, fw_snoc _ _ _ 0 (Int.le_refl _)] at h ⊢
    by_cases c1 : fw row.length (l.take n) 0 < 0
    · rw [if_pos c1] at h; omega
    rw [if_neg c1] at h ⊢
    by_cases c2 : takes l[n] row.length < 0 ∨ fw row.length (l.take n) 0 < takes l[n] row.length
    · rw [if_pos c2] at h; omega
    rw [if_neg c2] at h ⊢
    obtain ⟨s1, s2⟩ := ih (by omega) (by omega)
    rw [stk, e1]
    have tl := takes_le l[n] row.length
    unfold step
    by_cases c3 : takes l[n] row.length = 0
    · rw [if_pos c3]
      exact ⟨.cons s1 (.leaf e0 c3), by rw [List.length_cons]; omega⟩
    rw [if_neg c3]
    by_cases c4 : takes l[n] row.length = 1
    · rw [if_pos c4]
      rcases s1.pop with ⟨e, _⟩ | ⟨j, v, st, e, q, r⟩
      · rw [e] at s2; simp at s2; omega
      · rw [e] at s2 ⊢
        exact ⟨.cons q (.un r e0 c4), by rw [List.length_cons] at s2 ⊢; omega⟩
    · rw [if_neg c4]
      rcases s1.pop with ⟨e, _⟩ | ⟨j, v, st, e, q, r⟩
      · rw [e] at s2; simp at s2; omega
      · rcases q.pop with ⟨e', _⟩ | ⟨j', v', st', e', q', r'⟩
        · rw [e, e'] at s2; simp at s2; omega
        · rw [e, e'] at s2 ⊢
          exact ⟨.cons q' (.bin r' r e0 (by omega)), by simp only [List.length_cons] at s2 ⊢; omega⟩

theorem ex_seg {l : List (Int × Int)} {row : List V} (h : exOk l row.length = true) : ∃ v, Seg l row 0 l.length v ∧ stk l row l.length = [v] := by
  rw [exOk_fw] at h
  simp only [decide_eq_true_eq] at h
  obtain ⟨_, _, h⟩ := h
  obtain ⟨a, b⟩ := stk_ok l row l.length (Nat.le_refl _) (by rw [List.take_length]; omega)
  rw [List.take_length, h] at b
  rcases a.pop with ⟨e, _⟩ | ⟨j, v, st, e, q, r⟩
  · rw [e] at b; simp at b
  · rcases q.pop with ⟨e', e2⟩ | ⟨j', v', st', e', q', r'⟩
    · subst e2
      exact ⟨v, r, by rw [e, e']⟩
    · rw [e, e'] at b; simp at b; omega

theorem ok94 (v : Int) : Plain Try.prog 94 [.int v] (dv (false, v)) := okOf mixed p94 fun A P hA hP => (by
  cbv
  repeat' first | with_reducible rfl | with_reducible refine And.intro ?_ ?_ | ((with_reducible intro hcc); first | (cases hcc; done) | skip) | ((with_reducible show goC _ _ _ _ _ _ _ _); cbv) | ((with_reducible show goOps _ _ _ _ _); cbv) | ((with_reducible show okWr _ _ = _); rfl) | ((with_reducible refine hA.fin_pl _ _ _ ?_); cbv) | ((with_reducible refine hA.len _ _ _ _ _ fun z hz hb => ?_); cbv) | ((with_reducible refine hA.slen _ _ _ _ _ fun z hz hb => ?_); cbv) | ((with_reducible refine hA.off _ _ _ _ fun b hb => ?_); cbv) | ((with_reducible refine hA.plus _ _ _ fun b hb => ?_); cbv) | ((with_reducible refine hA.rep _ _ _ fun ds m hds hm => ?_); cbv) | ((with_reducible refine hA.app _ _ _ _ _ ⟨?_, fun zs m hzs hm => ?_⟩); rotate_left; cbv) | ((with_reducible refine hA.app0 _ _ _ ⟨?_, fun m hm => ?_⟩); rotate_left; cbv) | ((with_reducible refine hA.slc _ _ _ _ _ ⟨?_, fun zs hzs => ?_⟩); rotate_left; cbv) | ((with_reducible refine hA.st _ _ _ _ _ ⟨?_, fun ds hds => ?_⟩); rotate_left; cbv) | ((with_reducible refine hA.alt _ _ (Or.inl ?_)); cbv) | ((with_reducible refine hA.appv _ _ _ _ _ _ ⟨?_, fun bb m ds hbb hm hds => ?_⟩); rotate_left; cbv) | ((with_reducible refine hA.vsl _ _ _ _ ⟨?_, fun m hm => ?_⟩); rotate_left; cbv) | ((with_reducible refine hA.vcut _ _ _ _ ⟨?_, fun cs hcs => ?_⟩); rotate_left; cbv) | ((with_reducible refine hA.appw _ _ _ _ _ _ _ ⟨?_, fun bb m ds hbb hm hds => ?_⟩); rotate_left; cbv) | ((with_reducible refine hA.six _ _ _ fun z6 c hz6 hc hc2 => ?_); cbv) | ((with_reducible refine hA.ssl _ _ _ _ ⟨?_, fun sl hsl => ?_⟩); rotate_left; cbv) | ((with_reducible refine hA.sapp _ _ _ ⟨?_, fun sl hsl => ?_⟩); rotate_left; cbv) | ((with_reducible refine hA.s2b _ _ fun es hes => ?_); cbv) | ((with_reducible refine hA.gb0 true _ ?_); cbv) | ((with_reducible refine hA.gb0 false _ ?_); cbv) | ((with_reducible refine hA.gb _ _ fun vb hvb => ?_); cbv) | ((with_reducible refine hA.mget _ _ _ _ ⟨fun mv hmv => ?_, fun hmv => ?_⟩) <;> cbv) | ((with_reducible refine hA.mset _ _ _ _ fun ml hml => ?_); cbv) | (simp only [hA.natLit, hA.natOf, hA.natCast]; cbv)
  all_goals try simp only [hA.add, hA.sub, hA.mul, hA.neg, hA.div, hA.mod, hA.mn, hA.mx, hA.eq, hA.lt, hA.le, hA.nat, hA.R, hA.lep, hA.ltp, hA.seq, inR, n_cast, Int.ofNat_eq_natCast, Option.getD_some, Option.getD_none] at *
  )
theorem ok95 (b : Bool) (v : Int) : Plain Try.prog 95 [dVal b v] (dv (clean (b, v))) := okOf mixed p95 fun A P hA hP => (by
  obtain ⟨r, hr⟩ : ∃ r, r = clean (b, v) := ⟨_, rfl⟩
  rw [← hr]
  cbv
  repeat' first | with_reducible rfl | with_reducible refine And.intro ?_ ?_ | ((with_reducible intro hcc); first | (cases hcc; done) | skip) | ((with_reducible show goC _ _ _ _ _ _ _ _); cbv) | ((with_reducible show goOps _ _ _ _ _); cbv) | ((with_reducible show okWr _ _ = _); rfl) | ((with_reducible refine hA.fin_pl _ _ _ ?_); cbv) | ((with_reducible refine hA.len _ _ _ _ _ fun z hz hb => ?_); cbv) | ((with_reducible refine hA.slen _ _ _ _ _ fun z hz hb => ?_); cbv) | ((with_reducible refine hA.off _ _ _ _ fun b hb => ?_); cbv) | ((with_reducible refine hA.plus _ _ _ fun b hb => ?_); cbv) | ((with_reducible refine hA.rep _ _ _ fun ds m hds hm => ?_); cbv) | ((with_reducible refine hA.app _ _ _ _ _ ⟨?_, fun zs m hzs hm => ?_⟩); rotate_left; cbv) | ((with_reducible refine hA.app0 _ _ _ ⟨?_, fun m hm => ?_⟩); rotate_left; cbv) | ((with_reducible refine hA.slc _ _ _ _ _ ⟨?_, fun zs hzs => ?_⟩); rotate_left; cbv) | ((with_reducible refine hA.st _ _ _ _ _ ⟨?_, fun ds hds => ?_⟩); rotate_left; cbv) | ((with_reducible refine hA.alt _ _ (Or.inl ?_)); cbv) | ((with_reducible refine hA.appv _ _ _ _ _ _ ⟨?_, fun bb m ds hbb hm hds => ?_⟩); rotate_left; cbv) | ((with_reducible refine hA.vsl _ _ _ _ ⟨?_, fun m hm => ?_⟩); rotate_left; cbv) | ((with_reducible refine hA.vcut _ _ _ _ ⟨?_, fun cs hcs => ?_⟩); rotate_left; cbv) | ((with_reducible refine hA.appw _ _ _ _ _ _ _ ⟨?_, fun bb m ds hbb hm hds => ?_⟩); rotate_left; cbv) | ((with_reducible refine hA.six _ _ _ fun z6 c hz6 hc hc2 => ?_); cbv) | ((with_reducible refine hA.ssl _ _ _ _ ⟨?_, fun sl hsl => ?_⟩); rotate_left; cbv) | ((with_reducible refine hA.sapp _ _ _ ⟨?_, fun sl hsl => ?_⟩); rotate_left; cbv) | ((with_reducible refine hA.s2b _ _ fun es hes => ?_); cbv) | ((with_reducible refine hA.gb0 true _ ?_); cbv) | ((with_reducible refine hA.gb0 false _ ?_); cbv) | ((with_reducible refine hA.gb _ _ fun vb hvb => ?_); cbv) | ((with_reducible refine hA.mget _ _ _ _ ⟨fun mv hmv => ?_, fun hmv => ?_⟩) <;> cbv) | ((with_reducible refine hA.mset _ _ _ _ fun ml hml => ?_); cbv) | (simp only [hA.natLit, hA.natOf, hA.natCast]; cbv)
  all_goals try simp only [hA.add, hA.sub, hA.mul, hA.neg, hA.div, hA.mod, hA.mn, hA.mx, hA.eq, hA.lt, hA.le, hA.nat, hA.R, hA.lep, hA.ltp, hA.seq, inR, n_cast, Int.ofNat_eq_natCast, Option.getD_some, Option.getD_none] at *
  all_goals (simp only [clean] at hr; simp_all))
theorem ok96 (b : Bool) (v : Int) : Plain Try.prog 96 [dVal b v] (dv (clean (b, v))) := okOf mixed p96 fun A P hA hP => (by
  obtain ⟨r, hr⟩ : ∃ r, r = clean (b, v) := ⟨_, rfl⟩
  rw [← hr]
  cbv
  repeat' first | with_reducible rfl | with_reducible refine And.intro ?_ ?_ | ((with_reducible intro hcc); first | (cases hcc; done) | skip) | ((with_reducible show goC _ _ _ _ _ _ _ _); cbv) | ((with_reducible show goOps _ _ _ _ _); cbv) | ((with_reducible show okWr _ _ = _); rfl) | ((with_reducible refine hA.fin_pl _ _ _ ?_); cbv) | ((with_reducible refine hA.len _ _ _ _ _ fun z hz hb => ?_); cbv) | ((with_reducible refine hA.slen _ _ _ _ _ fun z hz hb => ?_); cbv) | ((with_reducible refine hA.off _ _ _ _ fun b hb => ?_); cbv) | ((with_reducible refine hA.plus _ _ _ fun b hb => ?_); cbv) | ((with_reducible refine hA.rep _ _ _ fun ds m hds hm => ?_); cbv) | ((with_reducible refine hA.app _ _ _ _ _ ⟨?_, fun zs m hzs hm => ?_⟩); rotate_left; cbv) | ((with_reducible refine hA.app0 _ _ _ ⟨?_, fun m hm => ?_⟩); rotate_left; cbv) | ((with_reducible refine hA.slc _ _ _ _ _ ⟨?_, fun zs hzs => ?_⟩); rotate_left; cbv) | ((with_reducible refine hA.st _ _ _ _ _ ⟨?_, fun ds hds => ?_⟩); rotate_left; cbv) | ((with_reducible refine hA.alt _ _ (Or.inl ?_)); cbv) | ((with_reducible refine hA.appv _ _ _ _ _ _ ⟨?_, fun bb m ds hbb hm hds => ?_⟩); rotate_left; cbv) | ((with_reducible refine hA.vsl _ _ _ _ ⟨?_, fun m hm => ?_⟩); rotate_left; cbv) | ((with_reducible refine hA.vcut _ _ _ _ ⟨?_, fun cs hcs => ?_⟩); rotate_left; cbv) | ((with_reducible refine hA.appw _ _ _ _ _ _ _ ⟨?_, fun bb m ds hbb hm hds => ?_⟩); rotate_left; cbv) | ((with_reducible refine hA.six _ _ _ fun z6 c hz6 hc hc2 => ?_); cbv) | ((with_reducible refine hA.ssl _ _ _ _ ⟨?_, fun sl hsl => ?_⟩); rotate_left; cbv) | ((with_reducible refine hA.sapp _ _ _ ⟨?_, fun sl hsl => ?_⟩); rotate_left; cbv) | ((with_reducible refine hA.s2b _ _ fun es hes => ?_); cbv) | ((with_reducible refine hA.gb0 true _ ?_); cbv) | ((with_reducible refine hA.gb0 false _ ?_); cbv) | ((with_reducible refine hA.gb _ _ fun vb hvb => ?_); cbv) | ((with_reducible refine hA.mget _ _ _ _ ⟨fun mv hmv => ?_, fun hmv => ?_⟩) <;> cbv) | ((with_reducible refine hA.mset _ _ _ _ fun ml hml => ?_); cbv) | (simp only [hA.natLit, hA.natOf, hA.natCast]; cbv)
  all_goals try simp only [hA.add, hA.sub, hA.mul, hA.neg, hA.div, hA.mod, hA.mn, hA.mx, hA.eq, hA.lt, hA.le, hA.nat, hA.R, hA.lep, hA.ltp, hA.seq, inR, n_cast, Int.ofNat_eq_natCast, Option.getD_some, Option.getD_none] at *
  all_goals (simp only [clean] at hr; simp_all))
end Go.Proofs.Ytmnhoglkahmlaaa.Ab
