/- Expressions: their values. -/
import Derived.Test.YtfplalbognalkaaMFnExactSortRows2
set_option linter.unusedSimpArgs false
set_option linter.unusedVariables false
set_option linter.unnecessarySimpa false
set_option linter.constructorNameAsVariable false
namespace Go.Proofs.Ytfplalbognalkaa.Ab
open Go
abbrev V := Bool × Int
abbrev dv (p : V) : D := dVal p.1 p.2
abbrev triV (k : Int) : V := (decide (k = 1), if k = 1 then 0 else k / 2)
def clean (p : V) : V := if p.1 then (true, 0) else p
def leafV (o : Int × Int) (row : List V) : V := if o.1 = 1 then (false, o.2) else if o.1 = 2 then (true, 0) else clean (row.getD o.2.toNat (false, 0))
def unV (o : Int × Int) (b : V) : V := if o.1 = 7 then (b.1, if b.1 = false ∧ b.2 = 0 then 1 else 0) else (false, if b.1 then 1 else 0)
def binV (o : Int × Int) (a b : V) : V := if o.1 = 4 then triV (cm o.2 a.1 a.2 b.1 b.2) else if o.1 = 5 then triV (min (tr a.1 a.2) (tr b.1 b.2)) else triV (max (tr a.1 a.2) (tr b.1 b.2))
theorem takes0 {o : Int × Int} {w : Int} (h : takes o w = 0) : o.1 = 1 ∨ (o.1 = 2 ∧ o.2 = 0) ∨ (o.1 = 3 ∧ 0 ≤ o.2 ∧ o.2 < w) := by unfold takes at h; grind
theorem takes1 {o : Int × Int} {w : Int} (h : takes o w = 1) : o.1 = 7 ∨ o.1 = 8 := by unfold takes at h; grind
theorem takes2 {o : Int × Int} {w : Int} (h : takes o w = 2) : o.1 = 4 ∨ o.1 = 5 ∨ o.1 = 6 := by unfold takes at h; grind
/-- Operations j to e - 1 are an expression with a value. -/
inductive Seg (l : List (Int × Int)) (row : List V) : Nat → Nat → V → Prop
  | leaf {e o} (h : l[e]? = some o) (ht : takes o row.length = 0) : Seg l row e (e + 1) (leafV o row)
  | un {j e o b} (hb : Seg l row j e b) (h : l[e]? = some o) (ht : takes o row.length = 1) : Seg l row j (e + 1) (unV o b)
  | bin {j m e o a b} (ha : Seg l row j m a) (hb : Seg l row m e b) (h : l[e]? = some o) (ht : takes o row.length = 2) : Seg l row j (e + 1) (binV o a b)
theorem Seg.lt {l row j e v} (h : Seg l row j e v) : j < e ∧ e ≤ l.length := by
  induction h with
  | leaf h _ => exact ⟨by omega, (List.getElem?_eq_some_iff.1 h).1⟩
  | un _ h _ ih => exact ⟨by omega, (List.getElem?_eq_some_iff.1 h).1⟩
  | bin _ _ h _ ih ih' => exact ⟨by omega, (List.getElem?_eq_some_iff.1 h).1⟩
theorem back_zero (l : List (Int × Int)) (w : Int) (j : Nat) : back l w j 0 = j := by cases j <;> rfl
theorem back_succ {l : List (Int × Int)} {w : Int} {e : Nat} {o : Int × Int} (h : l[e]? = some o) (h0 : 0 ≤ takes o w) {need : Int} (hn : 1 ≤ need) : back l w (e + 1) need = back l w e (need - 1 + takes o w) := by
  have e1 : l.getD e (0, 0) = o := by simp [List.getD, h]
  rw [back, if_neg (by omega), e1, if_neg (by omega)]
theorem Seg.back {l row j e v} (h : Seg l row j e v) : ∀ need : Int, 1 ≤ need → back l row.length e need = Ab.back l row.length j (need - 1) := by
  induction h with
  | leaf h ht => intro need hn; rw [back_succ h (by omega) hn, ht, Int.add_zero]
  | un _ h ht ih =>
    intro need hn
    rw [back_succ h (by omega) hn, ht, show need - 1 + 1 = need by omega]
    exact ih need hn
  | bin _ _ h ht ih ih' =>
    intro need hn
    rw [back_succ h (by omega) hn, ht, show need - 1 + 2 = need + 1 by omega, ih' (need + 1) (by omega), show need + 1 - 1 = need by omega]
    exact ih need hn
/-- The values on the stack: the last first. -/
inductive Stk (l : List (Int × Int)) (row : List V) : Nat → List V → Prop
  | nil : Stk l row 0 []
  | cons {j e v st} (h : Stk l row j st) (s : Seg l row j e v) : Stk l row e (v :: st)
def step (row : List V) (o : Int × Int) (st : List V) : List V :=
  if takes o row.length = 0 then leafV o row :: st
  else if takes o row.length = 1 then (match st with | b :: r => unV o b :: r | _ => [])
  else (match st with | b :: a :: r => binV o a b :: r | _ => [])
def stk (l : List (Int × Int)) (row : List V) : Nat → List V
  | 0 => []
  | n + 1 => step row (l.getD n (0, 0)) (stk l row n)
theorem Stk.pop {l row n s} (h : Stk l row n s) : (s = [] ∧ n = 0) ∨ ∃ j v st, s = v :: st ∧ Stk l row j st ∧ Seg l row j n v := by
  cases h with
  | nil => exact .inl ⟨rfl, rfl⟩
  | cons q r => exact .inr ⟨_, _, _, rfl, q, r⟩
theorem stk_ok (l : List (Int × Int)) (row : List V) : ∀ n : Nat, n ≤ l.length → 0 ≤ fw row.length (l.take n) 0 → Stk l row n (stk l row n) ∧ ((stk l row n).length : Int) = fw row.length (l.take n) 0 := by
  intro n
  induction n with
  | zero => intro _ _; exact ⟨.nil, rfl⟩
  | succ n ih =>
    intro hn h
    have hlt : n < l.length := by omega
    have e0 : l[n]? = some l[n] := by simp [hlt]
    have e1 : l.getD n (0, 0) = l[n] := by simp [List.getD, hlt]
    have e2 : l.take (n + 1) = l.take n ++ [l[n]] := by rw [List.take_add_one]; simp [hlt]
    rw [e2, fw_snoc _ _ _ 0 (Int.le_refl _)] at h ⊢
    by_cases c1 : fw row.length (l.take n) 0 < 0
    · rw [if_pos c1] at h; omega
    rw [if_neg c1] at h ⊢
    by_cases c2 : takes l[n] row.length < 0 ∨ fw row.length (l.take n) 0 < takes l[n] row.length
    · rw [if_pos c2] at h; omega
    rw [if_neg c2] at h ⊢
    obtain ⟨s1, s2⟩ := ih (by omega) (by omega)
    rw [stk, e1]
    have tl := takes_le l[n] row.length
    unfold step
    by_cases c3 : takes l[n] row.length = 0
    · rw [if_pos c3]
      exact ⟨.cons s1 (.leaf e0 c3), by rw [List.length_cons]; omega⟩
    rw [if_neg c3]
    by_cases c4 : takes l[n] row.length = 1
    · rw [if_pos c4]
      rcases s1.pop with ⟨e, _⟩ | ⟨j, v, st, e, q, r⟩
      · rw [e] at s2; simp at s2; omega
      · rw [e] at s2 ⊢
        exact ⟨.cons q (.un r e0 c4), by rw [List.length_cons] at s2 ⊢; omega⟩
    · rw [if_neg c4]
      rcases s1.pop with ⟨e, _⟩ | ⟨j, v, st, e, q, r⟩
      · rw [e] at s2; simp at s2; omega
      · rcases q.pop with ⟨e', _⟩ | ⟨j', v', st', e', q', r'⟩
        · rw [e, e'] at s2; simp at s2; omega
        · rw [e, e'] at s2 ⊢
          exact ⟨.cons q' (.bin r' r e0 (by omega)), by simp only [List.length_cons] at s2 ⊢; omega⟩
theorem ex_seg {l : List (Int × Int)} {row : List V} (h : exOk l row.length = true) : ∃ v, Seg l row 0 l.length v ∧ stk l row l.length = [v] := by
  rw [exOk_fw] at h
  simp only [decide_eq_true_eq] at h
  obtain ⟨_, _, h⟩ := h
  obtain ⟨a, b⟩ := stk_ok l row l.length (Nat.le_refl _) (by rw [List.take_length]; omega)
  rw [List.take_length, h] at b
  rcases a.pop with ⟨e, _⟩ | ⟨j, v, st, e, q, r⟩
  · rw [e] at b; simp at b
  · rcases q.pop with ⟨e', e2⟩ | ⟨j', v', st', e', q', r'⟩
    · subst e2
      exact ⟨v, r, by rw [e, e']⟩
    · rw [e, e'] at b; simp at b; omega
theorem ok159 (v : Int) : Plain Try.prog 159 [.int v] (dv (false, v)) := okOf mixed p159 fun A P hA hP => (by
  cbv
  repeat' first | with_reducible rfl | with_reducible refine And.intro ?_ ?_ | ((with_reducible intro hcc); first | (cases hcc; done) | skip) | ((with_reducible first | show goC _ _ _ _ _ _ _ _ | show goOps _ _ _ _ _ | show goD _ _ _ _ _ _); cbv) | ((with_reducible show okWr _ _ = _); rfl) | ((with_reducible first | refine hA.fin_pl _ _ _ ?_); cbv) | ((with_reducible first | refine hA.st _ _ _ _ _ ⟨?_, fun ds hds => ?_⟩); rotate_left; cbv) | (simp only [hA.lits]; cbv)
  all_goals try simp only [hA.ar, inR, n_cast, Int.ofNat_eq_natCast, Option.getD_some, Option.getD_none] at *
  )
theorem ok106 (b : Bool) (v : Int) : Plain Try.prog 106 [dVal b v] (dv (clean (b, v))) := okOf mixed p106 fun A P hA hP => (by
  obtain ⟨r, hr⟩ : ∃ r, r = clean (b, v) := ⟨_, rfl⟩
  rw [← hr]
  cbv
  repeat' first | with_reducible rfl | with_reducible refine And.intro ?_ ?_ | ((with_reducible intro hcc); first | (cases hcc; done) | skip) | ((with_reducible first | show goC _ _ _ _ _ _ _ _ | show goOps _ _ _ _ _ | show goD _ _ _ _ _ _); cbv) | ((with_reducible show okWr _ _ = _); rfl) | ((with_reducible first | refine hA.fin_pl _ _ _ ?_); cbv) | ((with_reducible first | refine hA.st _ _ _ _ _ ⟨?_, fun ds hds => ?_⟩); rotate_left; cbv) | (simp only [hA.lits]; cbv)
  all_goals try simp only [hA.ar, inR, n_cast, Int.ofNat_eq_natCast, Option.getD_some, Option.getD_none] at *
  all_goals (simp only [clean] at hr; simp_all))
theorem ok107 (b : Bool) (v : Int) : Plain Try.prog 107 [dVal b v] (dv (clean (b, v))) := okOf mixed p107 fun A P hA hP => (by
  obtain ⟨r, hr⟩ : ∃ r, r = clean (b, v) := ⟨_, rfl⟩
  rw [← hr]
  cbv
  repeat' first | with_reducible rfl | with_reducible refine And.intro ?_ ?_ | ((with_reducible intro hcc); first | (cases hcc; done) | skip) | ((with_reducible first | show goC _ _ _ _ _ _ _ _ | show goOps _ _ _ _ _ | show goD _ _ _ _ _ _); cbv) | ((with_reducible show okWr _ _ = _); rfl) | ((with_reducible first | refine hA.fin_pl _ _ _ ?_); cbv) | ((with_reducible first | refine hA.st _ _ _ _ _ ⟨?_, fun ds hds => ?_⟩); rotate_left; cbv) | (simp only [hA.lits]; cbv)
  all_goals try simp only [hA.ar, inR, n_cast, Int.ofNat_eq_natCast, Option.getD_some, Option.getD_none] at *
  all_goals (simp only [clean] at hr; simp_all))
end Go.Proofs.Ytfplalbognalkaa.Ab
/- Rows in order: the plain law of sorting. -/
namespace Go.Proofs.Ytfplalbognalkaa.Ab
open Go
abbrev Row := List (Bool × Int)
theorem vcmp_neg (p q : Bool × Int) : vcmp p q = -vcmp q p := by
  obtain ⟨b, v⟩ := p
  obtain ⟨c, w⟩ := q
  unfold vcmp
  cases b <;> cases c <;> simp <;> (repeat' split) <;> omega
theorem vcmp_lt {p q u : Bool × Int} (h1 : vcmp p q ≤ 0) (h2 : vcmp q u ≤ 0) : vcmp p u ≤ 0 ∧ (vcmp p u = 0 → vcmp p q = 0 ∧ vcmp q u = 0) ∧ (vcmp p q = 0 → vcmp q u = 0 → vcmp p u = 0) := by
  obtain ⟨b, v⟩ := p
  obtain ⟨c, w⟩ := q
  obtain ⟨d, x⟩ := u
  unfold vcmp at *
  cases b <;> cases c <;> cases d <;> simp at * <;> grind
theorem rcmp_neg : ∀ l m : Row, rcmp l m = -rcmp m l
  | [], [] => rfl
  | [], _ :: _ => rfl
  | _ :: _, [] => rfl
  | p :: l, q :: m => by
    have h1 := vcmp_neg p q
    have h2 := rcmp_neg l m
    simp only [rcmp]
    split <;> split <;> omega
theorem rcmp_trans : ∀ {l m n : Row}, rcmp l m ≤ 0 → rcmp m n ≤ 0 → rcmp l n ≤ 0
  | [], _, [], _, _ => by simp [rcmp]
  | [], _, _ :: _, _, _ => by simp [rcmp]
  | p :: l, [], _, h, _ => by simp [rcmp] at h
  | p :: l, q :: m, [], _, h => by simp [rcmp] at h
  | p :: l, q :: m, u :: n, h1, h2 => by
    simp only [rcmp] at *
    have h3 : ∀ (x : Int), x ≠ 0 ∨ x = 0 := fun x => by omega
    by_cases a : vcmp p q = 0
    · by_cases b : vcmp q u = 0
      · rw [if_neg (by omega)] at h1 h2
        obtain ⟨_, _, e⟩ := vcmp_lt (p := p) (q := q) (u := u) (by omega) (by omega)
        rw [if_neg (by have := e a b; omega)]
        exact rcmp_trans h1 h2
      · rw [if_pos b] at h2
        obtain ⟨e1, e2, _⟩ := vcmp_lt (p := p) (q := q) (u := u) (by omega) h2
        rw [if_pos (fun e => b (e2 e).2)]
        exact e1
    · rw [if_pos a] at h1
      have hb : vcmp q u ≤ 0 := by split at h2 <;> omega
      obtain ⟨e1, e2, _⟩ := vcmp_lt h1 hb
      rw [if_pos (fun e => a (e2 e).1)]
      exact e1
/-- NULLs hold 0. -/
def Cl (r : Row) : Prop := ∀ v ∈ r, v.1 = true → v.2 = 0
theorem vcmp_eq {p q : Bool × Int} (hp : p.1 = true → p.2 = 0) (hq : q.1 = true → q.2 = 0) (h : vcmp p q = 0) : p = q := by
  obtain ⟨b, v⟩ := p
  obtain ⟨c, w⟩ := q
  unfold vcmp at h
  cases b <;> cases c <;> simp at * <;> grind
theorem rcmp_eq : ∀ {l m : Row}, Cl l → Cl m → rcmp l m = 0 → l = m
  | [], [], _, _, _ => rfl
  | [], _ :: _, _, _, h => by simp [rcmp] at h
  | _ :: _, [], _, _, h => by simp [rcmp] at h
  | p :: l, q :: m, h1, h2, h => by
    simp only [rcmp] at h
    by_cases a : vcmp p q = 0
    · rw [if_neg (by omega)] at h
      rw [vcmp_eq (h1 p (by simp)) (h2 q (by simp)) a, rcmp_eq (fun v hv => h1 v (by simp [hv])) (fun v hv => h2 v (by simp [hv])) h]
    · rw [if_pos a] at h; exact absurd h a
theorem rcmp_self (l : Row) : rcmp l l = 0 := by have := rcmp_neg l l; omega
def leR (a b : Row) : Bool := decide (rcmp a b ≤ 0)
theorem leR_trans (a b c : Row) (h1 : leR a b = true) (h2 : leR b c = true) : leR a c = true := by
  simp only [leR, decide_eq_true_eq] at *
  exact rcmp_trans h1 h2
theorem leR_total (a b : Row) : (leR a b || leR b a) = true := by
  have := rcmp_neg a b
  simp only [leR, Bool.or_eq_true, decide_eq_true_eq]
  omega
/-- Sorted. -/
def Srt (l : List Row) : Prop := l.Pairwise fun a b => rcmp a b ≤ 0
def srt (l : List Row) : List Row := l.mergeSort leR
theorem srt_perm (l : List Row) : (srt l).Perm l := List.mergeSort_perm l leR
theorem srt_srt (l : List Row) : Srt (srt l) := by
  have := List.pairwise_mergeSort (le := leR) leR_trans leR_total l
  unfold Srt srt
  refine this.imp fun h => ?_
  simpa [leR] using h
theorem srt_len (l : List Row) : (srt l).length = l.length := (srt_perm l).length_eq
theorem srt_unique {X Y : List Row} (hc : ∀ r ∈ X, Cl r) (hp : Y.Perm X) (hs : Srt Y) : Y = srt X := by
  refine List.Perm.eq_of_pairwise (le := fun a b => rcmp a b ≤ 0) (fun a b ha hb h1 h2 => ?_) hs (srt_srt X) (hp.trans (srt_perm X).symm)
  have := rcmp_neg a b
  exact rcmp_eq (hc a (hp.mem_iff.1 ha)) (hc b ((srt_perm X).mem_iff.1 hb)) (by omega)
theorem srt_cl {X : List Row} (hc : ∀ r ∈ X, Cl r) : ∀ r ∈ srt X, Cl r := fun r h => hc r ((srt_perm X).mem_iff.1 h)
/-- An element finds its place. -/
theorem srt_insert {X L R : List Row} {x : Row} (hc : ∀ r ∈ X ++ [x], Cl r) (h : L ++ R = srt X) (hR : ∀ r ∈ R, rcmp x r < 0) (hL : ∀ y, L.getLast? = some y → ¬ rcmp x y < 0) : L ++ x :: R = srt (X ++ [x]) := by
  have hs : Srt (L ++ R) := by rw [h]; exact srt_srt X
  have hsp := List.pairwise_append.1 hs
  refine srt_unique hc ?_ ?_
  · have p1 : (L ++ x :: R).Perm (x :: (L ++ R)) := List.perm_middle
    refine p1.trans ?_
    rw [h]
    exact ((srt_perm X).cons x).trans (List.perm_append_singleton x X).symm
  · have hLx : ∀ a ∈ L, rcmp a x ≤ 0 := fun a ha => by
      rcases List.eq_nil_or_concat L with rfl | ⟨L', y, rfl⟩
      · cases ha
      · rw [List.concat_eq_append] at ha hL hsp
        have h1 := hL y (by simp)
        have h2 := rcmp_neg x y
        have h3 : rcmp y x ≤ 0 := by omega
        rcases List.mem_append.1 ha with ha | ha
        · have := (List.pairwise_append.1 hsp.1).2.2 a ha y (by simp)
          exact rcmp_trans this h3
        · simp at ha; subst ha; exact h3
    refine List.pairwise_append.2 ⟨hsp.1, List.pairwise_cons.2 ⟨fun r hr => by have := hR r hr; omega, hsp.2.1⟩, fun a ha b hb => ?_⟩
    rcases List.mem_cons.1 hb with rfl | hb
    · exact hLx a ha
    · exact hsp.2.2 a ha b hb
/-- The cells of rows. -/
abbrev rowD (r : Row) : D := .e (.sl (r.map vr))
def dsR (c : List Row) : List D := c.map rowD
theorem dsR_len (c : List Row) : (dsR c).length = c.length := by simp [dsR]
theorem dsR_app (a b : List Row) : dsR (a ++ b) = dsR a ++ dsR b := by simp [dsR]
theorem dsR_ren (t : RF) (c : List Row) : rens t (dsR c) = dsR c := by
  induction c with
  | nil => rfl
  | cons r c ih => show rowD r :: rens t (dsR c) = _; rw [ih]; rfl
theorem dsR_lt (m : Nat) (c : List Row) : lts m (dsR c) = true := by
  induction c with
  | nil => rfl
  | cons r c ih => show (true && lts m (dsR c)) = true; rw [ih]; rfl
theorem dsR_get {c : List Row} {ds : List D} {off : Nat} {d : D} (hd : ds = dsR c) (ho : off < c.length) (h : d = ds.getD off default) : d = rowD (c.getD off []) := by
  subst hd
  rw [h]
  simp [dsR, List.getD, ho]
theorem dsR_set {c : List Row} {ds ds' : List D} {off : Nat} {r : Row} (hd : ds = dsR c) (ho : off < c.length) (h : ds' = ds.take off ++ [rowD r] ++ ds.drop (off + 1)) : ds' = dsR (c.set off r) := by
  subst hd
  rw [h, dsR, dsR, List.map_set, List.set_eq_take_append_cons_drop, if_pos (by simpa using ho)]
  simp
end Go.Proofs.Ytfplalbognalkaa.Ab
/- One outcome: a walk's result, drawn out ahead of the call. -/
namespace Go.Proofs.Ytfplalbognalkaa.Ab
open Go
/-- What code does from a state: at most one outcome. -/
def SO (P : Program) (h0 : Hp) (nt : Nat) (code : Code) (s : St) (o : Option (Exit × St)) : Prop :=
  ∀ (w0 : World) (G0 : Gh) a w G, SR ⟨w0, G0, h0, nt⟩ s a w G → code.wp P (fun e a' w' => ∃ s', o = some (e, s') ∧ ∃ G', SR ⟨w0, G0, h0, nt⟩ s' a' w' G') a w
def KO (Kn : St → Prop) (Ke : Nat → St → Prop) (Kr : St → Prop) : Option (Exit × St) → Prop
  | none => True
  | some (.normal, s) => Kn s
  | some (.exit i, s) => Ke i s
  | some (.ret, s) => Kr s
  | _ => False
theorem list_lin {P : Program} {h0 : Hp} {nt : Nat} {ops : Array Oper} {K : St → Prop} : ∀ (l : List Oper) s, goOps Ar.std P (l.map (prepIns P nt ops)) s K →
    ∃ o : Option St, (∀ s', o = some s' → K s') ∧ ∀ (Q : Exit → Act → World → Prop) w0 G0 a w G, SR ⟨w0, G0, h0, nt⟩ s a w G → (∀ s' a w G, o = some s' → SR ⟨w0, G0, h0, nt⟩ s' a w G → Q .normal a w) → wpList P ops Q l a w := by
  intro l
  induction l with
  | nil => intro s h; exact ⟨some s, fun s' e => by cases e; exact h, fun Q w0 G0 a w G x hq => wpList_nil (hq s a w G rfl x)⟩
  | cons o r ih =>
    intro s h
    by_cases hx : ∃ w0 G0 a w G, SR ⟨w0, G0, h0, nt⟩ s a w G
    case neg => exact ⟨none, fun s' e => (by cases e), fun Q w0 G0 a w G x _ => absurd ⟨w0, G0, a, w, G, x⟩ hx⟩
    obtain ⟨w00, G00, a0, w0, G0, x0⟩ := hx
    simp only [List.map_cons, goOps, opA_std] at h
    unfold prepIns at h
    split at h
    · rename_i g hg
      split at h
      · rename_i hdst
        obtain ⟨gd, g', h, hgd, hwant⟩ := guard_spec0 hg h
        obtain ⟨ow, eff, ⟨how, hwr, hk'⟩, h1, h2, h3⟩ := op_sound (fun _ => ⟨w0, G0, hpF s.hp, a0, x0.rels⟩) h
        obtain ⟨o', q1, q2⟩ := ih _ hk'
        refine ⟨o', q1, fun Q w1 G1 a w G x hq => wpList_step fun K' hK' => ?_⟩
        have hwant := hwant w G (hpF s.hp) a fun t d _ ht => x.rel t d ht
        split
        · rename_i hw
          rw [hw] at hwant; subst hwant
          refine h3 how rfl w G (hpF s.hp) a K' Q x.inv (fun _ _ => rfl) (fun j hj => hpF_ge (by omega)) x.rels fun v w' G' hv hi he => hK' _ _ ?_
          exact q2 Q _ _ _ _ G' (x.app hdst hwr hv hi he) hq
        · rename_i hw
          have hg' : g' = false := by rw [← hwant]; simpa using hw
          subst hg'
          obtain ⟨e1, e2, d, e3⟩ := h1 (hgd rfl) rfl
          refine hK' _ _ (q2 Q _ _ _ _ G ?_ hq)
          have e4 : happ (hpF s.hp) s.hp.length eff = hpF s.hp := by
            rw [happ_app hwr, e1, e2]; simp [hset]
          refine x.app hdst hwr (fun d' hd' => ?_) (by rw [e4]; exact x.inv) (by rw [e4]; exact Ext.refl _ _ _)
          rw [e3] at hd'; cases hd'
          exact .when (by simp) (fun _ => rfl)
      · exact (by simp [guardOf, opE] at h : False).elim
    · exact (by simp [guardOf, opE] at h : False).elim
theorem dreg_lin {P : Program} {h0 : Hp} {nt : Nat} {ops : Array Oper} {K : St → Prop} {s : St} {id : Nat} (hm : P.follows .mixedOrders = true)
    (h : goD Ar.std P (prepDs P nt ops (ancs ops.toList []) 0 ops.toList) [] s K) :
    ∃ s', K s' ∧ ∀ (Q : Exit → Act → World → Prop) w0 G0 a w G, SR ⟨w0, G0, h0, nt⟩ s a w G → (∀ a w G, SR ⟨w0, G0, h0, nt⟩ s' a w G → Q .normal a w) → (Code.region id ops true).wp P Q a w := by
  obtain ⟨recs, q1, q2, q3, q4⟩ := goD_spec _ 0 [] s h rfl
  have F : Facts P nt ops (ancs ops.toList []) s recs := {
    len := by simpa using q1
    ok := q2
    step := fun j o r ho hr => by
      obtain ⟨a1, a2, a3, a4, a5, _⟩ := q4 j o r (by simpa using ho) hr
      exact ⟨a1, a2, a3, a4, by simpa using a5⟩
    un := fun j k o r x y ho hr hx hy hk => by
      obtain ⟨_, _, _, _, _, a6⟩ := q4 j o r (by simpa using ho) hr
      obtain ⟨⟨x', h1, h2⟩, y', h3, h4⟩ := a6 k (by simpa using hk)
      rw [hx] at h1; cases h1
      rw [List.nil_append, hy] at h3; cases h3
      exact ⟨h2, h4⟩
    anc := ancs_spec ops.toList [] (fun j => by simp) (fun j ks h => by simp at h) }
  refine ⟨runR s recs, q3, fun Q w0 G0 a w G x hq => wp_region_any hm ?_⟩
  obtain ⟨i0, x0⟩ := drew_step x.inv
  have hfalse : ∀ k, (Array.replicate ops.size false).getD k false = false := fun k => by
    simp only [Array.getD]
    split <;> simp
  have e0 : hS s recs (fun k => (Array.replicate ops.size false).getD k false) = hpF s.hp := by
    funext i
    exact lastS_none _ _ _ fun j _ h => by rw [hfalse] at h; cases h
  have e1 : ∀ t, eS s recs (fun k => (Array.replicate ops.size false).getD k false) t = look t s.env := fun t => lastS_none _ _ _ fun j _ h => by rw [hfalse] at h; cases h
  refine any_sound (c := ⟨w0, G0, h0, nt⟩) F (fun a w G x => hq a w G x) ops.size _ a _ G (by simp) (by simp) (fun i o _ h => by have := hfalse i; simp only [this] at h; cases h) ⟨x.defers, x.size, by rw [e0]; exact i0, by rw [e0]; exact x.ext.trans x0, fun t d h => ?_⟩
  rw [e0]
  rw [e1] at h
  exact (x.rel t d h).ext x0
theorem goC_lin {P : Program} {h0 : Hp} {nt : Nat} (hm : P.follows .mixedOrders = true) : ∀ (code : Code) {Kn : St → Prop} {Ke : Nat → St → Prop} {Kr : St → Prop} (s : St),
    goC Ar.std P h0 (prepC P nt code) Kn Ke Kr s → ∃ o, KO Kn Ke Kr o ∧ SO P h0 nt code s o := by
  intro code
  induction code with
  | skip => intro Kn Ke Kr s h; exact ⟨some (.normal, s), h, fun w0 G0 a w G x => wp_skip ⟨s, rfl, G, x⟩⟩
  | region id ops dr =>
    intro Kn Ke Kr s h
    cases dr with
    | false =>
      obtain ⟨o, q1, q2⟩ := list_lin (h0 := h0) _ s h
      cases o with
      | none => exact ⟨none, trivial, fun w0 G0 a w G x => wp_region_list (q2 _ w0 G0 a w G x fun s' a w G e => by cases e)⟩
      | some s1 => exact ⟨some (.normal, s1), q1 _ rfl, fun w0 G0 a w G x => wp_region_list (q2 _ w0 G0 a w G x fun s' a w G e x' => by cases e; exact ⟨s1, rfl, G, x'⟩)⟩
    | true =>
      obtain ⟨s1, q1, q2⟩ := dreg_lin (h0 := h0) (id := id) hm h
      exact ⟨some (.normal, s1), q1, fun w0 G0 a w G x => q2 _ w0 G0 a w G x fun a w G x' => ⟨s1, rfl, G, x'⟩⟩
  | seq y z ihy ihz =>
    intro Kn Ke Kr s h
    obtain ⟨o, q1, q2⟩ := ihy s h
    match o, q1, q2 with
    | none, _, q2 => exact ⟨none, trivial, fun w0 G0 a w G x => wp_seq (wp_mono (q2 w0 G0 a w G x) fun e a w ⟨s', h, _⟩ => by cases h)⟩
    | some (.normal, s1), q1, q2 =>
      obtain ⟨o2, q3, q4⟩ := ihz s1 q1
      exact ⟨o2, q3, fun w0 G0 a w G x => wp_seq (wp_mono (q2 w0 G0 a w G x) fun e a w ⟨s', h, G', x'⟩ => by cases h; exact q4 w0 G0 a w G' x')⟩
    | some (.exit i, s1), q1, q2 => exact ⟨some (.exit i, s1), q1, fun w0 G0 a w G x => wp_seq (wp_mono (q2 w0 G0 a w G x) fun e a w ⟨s', h, G', x'⟩ => by cases h; exact ⟨s1, rfl, G', x'⟩)⟩
    | some (.ret, s1), q1, q2 => exact ⟨some (.ret, s1), q1, fun w0 G0 a w G x => wp_seq (wp_mono (q2 w0 G0 a w G x) fun e a w ⟨s', h, G', x'⟩ => by cases h; exact ⟨s1, rfl, G', x'⟩)⟩
  | cond y p q ihp ihq =>
    intro Kn Ke Kr s h
    simp only [prepC] at h
    split at h
    · rename_i y' hy
      simp only [goC] at h
      split at h
      · rename_i c' hc'
        have ev : ∀ w0 G0 a w G, SR ⟨w0, G0, h0, nt⟩ s a w G → a.eval y = .bool c' := fun w0 G0 a w G x => (rv_v (x.rels y y' _ hy hc')).1
        cases c' with
        | true =>
          obtain ⟨o, q1, q2⟩ := ihp s (h.1 rfl)
          exact ⟨o, q1, fun w0 G0 a w G x => wp_cond_true (ev w0 G0 a w G x) (q2 w0 G0 a w G x)⟩
        | false =>
          obtain ⟨o, q1, q2⟩ := ihq s (h.2 rfl)
          exact ⟨o, q1, fun w0 G0 a w G x => wp_cond_false (ev w0 G0 a w G x) (q2 w0 G0 a w G x)⟩
      · exact h.elim
    · exact h.elim
  | block id y ih =>
    intro Kn Ke Kr s h
    obtain ⟨o, q1, q2⟩ := ih s h
    match o, q1, q2 with
    | none, _, q2 => exact ⟨none, trivial, fun w0 G0 a w G x => wp_block (wp_mono (q2 w0 G0 a w G x) fun e a w ⟨s', h, _⟩ => by cases h)⟩
    | some (.normal, s1), q1, q2 => exact ⟨some (.normal, s1), q1, fun w0 G0 a w G x => wp_block (wp_mono (q2 w0 G0 a w G x) fun e a w ⟨s', h, G', x'⟩ => by cases h; exact ⟨s1, rfl, G', x'⟩)⟩
    | some (.exit i, s1), q1, q2 =>
      by_cases e : i = id
      · simp only [KO, if_pos e] at q1
        exact ⟨some (.normal, s1), q1, fun w0 G0 a w G x => wp_block (wp_mono (q2 w0 G0 a w G x) fun e' a w ⟨s', h, G', x'⟩ => by cases h; simp only [Exit.inBlock, if_pos e]; exact ⟨s1, rfl, G', x'⟩)⟩
      · simp only [KO, if_neg e] at q1
        exact ⟨some (.exit i, s1), q1, fun w0 G0 a w G x => wp_block (wp_mono (q2 w0 G0 a w G x) fun e' a w ⟨s', h, G', x'⟩ => by cases h; simp only [Exit.inBlock, if_neg e]; exact ⟨s1, rfl, G', x'⟩)⟩
    | some (.ret, s1), q1, q2 => exact ⟨some (.ret, s1), q1, fun w0 G0 a w G x => wp_block (wp_mono (q2 w0 G0 a w G x) fun e a w ⟨s', h, G', x'⟩ => by cases h; exact ⟨s1, rfl, G', x'⟩)⟩
  | loop y ih =>
    intro Kn Ke Kr s h
    obtain ⟨I, ⟨n, s1, hw, hi⟩, hs⟩ := h
    have key : ∀ n s, I n s → ∃ o, KO (fun _ => False) Ke Kr o ∧ ∃ m, ∀ w0 G0 a w G, SR ⟨w0, G0, h0, nt⟩ s a w G → Code.rounds P y (fun e a' w' => ∃ s', o = some (e, s') ∧ ∃ G', SR ⟨w0, G0, h0, nt⟩ s' a' w' G') m a w := by
      intro n
      induction n using Nat.strongRecOn with
      | _ n ihn =>
        intro s hi
        obtain ⟨o, q1, q2⟩ := ih s (hs n s hi)
        match o, q1, q2 with
        | none, _, q2 => exact ⟨none, trivial, 1, fun w0 G0 a w G x => by rw [rounds_succ]; exact wp_mono (q2 w0 G0 a w G x) fun e a w ⟨s', h, _⟩ => by cases h⟩
        | some (.normal, s2), ⟨m, s3, hlt, hw, hi2⟩, q2 =>
          obtain ⟨o2, q3, m2, q4⟩ := ihn m hlt s3 hi2
          refine ⟨o2, q3, m2 + 1, fun w0 G0 a w G x => ?_⟩
          rw [rounds_succ]
          refine wp_mono (q2 w0 G0 a w G x) fun e a w ⟨s', h, G', x'⟩ => ?_
          cases h
          obtain ⟨G3, x3⟩ := x'.weak hw
          exact q4 w0 G0 a w G3 x3
        | some (.exit i, s2), q1, q2 => exact ⟨some (.exit i, s2), q1, 1, fun w0 G0 a w G x => by rw [rounds_succ]; exact wp_mono (q2 w0 G0 a w G x) fun e a w ⟨s', h, G', x'⟩ => by cases h; exact ⟨s2, rfl, G', x'⟩⟩
        | some (.ret, s2), q1, q2 => exact ⟨some (.ret, s2), q1, 1, fun w0 G0 a w G x => by rw [rounds_succ]; exact wp_mono (q2 w0 G0 a w G x) fun e a w ⟨s', h, G', x'⟩ => by cases h; exact ⟨s2, rfl, G', x'⟩⟩
    obtain ⟨o, q1, m, q2⟩ := key n s1 hi
    refine ⟨o, ?_, fun w0 G0 a w G x => ?_⟩
    · match o, q1 with
      | none, _ => trivial
      | some (.exit i, s2), q1 => exact q1
      | some (.ret, s2), q1 => exact q1
    · obtain ⟨G1, x1⟩ := x.weak hw
      exact wp_loop_rounds m (q2 w0 G0 a w G1 x1)
  | exit id => intro Kn Ke Kr s h; exact ⟨some (.exit id, s), h, fun w0 G0 a w G x => wp_exit ⟨s, rfl, G, x⟩⟩
  | ret => intro Kn Ke Kr s h; exact ⟨some (.ret, s), h, fun w0 G0 a w G x => wp_ret ⟨s, rfl, G, x⟩⟩
  | _ => intro Kn Ke Kr s h; exact h.elim
theorem evG_lin {g : Bool} {x : Option D} {K : Prop → D → Prop} (h : evG g x K) : ∃ o d, K o d ∧ ∀ K' : Prop → D → Prop, K' o d → evG g x K' := by
  unfold evG at h
  split at h
  · exact h.elim
  · exact ⟨_, _, h, fun K' h => h⟩
  · exact ⟨_, _, h, fun K' h => (by rename_i d hd; unfold evG; split <;> simp_all)⟩
theorem resK_lin {s : St} : ∀ (l : List RV) {K : Prop → List D → Prop}, resK s l K → ∃ o ds, K o ds ∧ ∀ K' : Prop → List D → Prop, K' o ds → resK s l K'
  | [], K, h => ⟨_, _, h, fun K' h => h⟩
  | .tmp t :: r, K, h => by
    simp only [resK] at h ⊢
    obtain ⟨o, d, h1, h2⟩ := evG_lin h
    obtain ⟨o', ds, h3, h4⟩ := resK_lin r h1
    exact ⟨_, _, h3, fun K' q => h2 _ (h4 _ q)⟩
  | .cell t agg n :: r, K, h => by
    simp only [resK] at h ⊢
    split at h
    case h_2 => exact h.elim
    rename_i i off hb
    split at h
    case h_2 => exact h.elim
    rename_i bs hbx
    obtain ⟨o', ds, h3, h4⟩ := resK_lin r h
    cases agg with
    | true => exact ⟨_, _, h3, fun K' q => h4 _ q⟩
    | false => exact ⟨_, _, h3, fun K' q => h4 _ q⟩
/-- A walk with a choice at its end has chosen ahead of it. -/
theorem callOK_lin {P : Program} (hm : P.follows .mixedOrders = true) {fn : FuncId} {f : F} (hf : prepF P fn = some f) {args : List D} {l0 : List O} {R : D → List O → Prop} (h : goF Ar.std P f args l0 R) :
    CallOK P fn args l0 (fun _ _ => False) ∨ ∃ d l, R d l ∧ CallOK P fn args l0 fun d' l' => d' = d ∧ l' = l := by
  have hf0 := hf
  simp only [prepF, Option.bind_eq_some_iff, Option.map_eq_some_iff] at hf
  obtain ⟨fu, h1, b, h2, r, h3, rfl⟩ := hf
  obtain ⟨hn, hc⟩ := h
  simp only at hn hc
  have sr : ∀ (w : World) (G : Gh) (vs : Array Value), Inv w G (hpF l0) → vs.size = args.length → (∀ (j : Nat) v d, vs[j]? = some v → args[j]? = some d → Rv w G (hpF l0) v d) →
      SR ⟨w, G, hpF l0, fu.ntmps⟩ ⟨envOf 0 args, l0⟩ { tmps := vs ++ Array.replicate (fu.ntmps - vs.size) undef, defers := [] } w G := fun w G vs hi hs hr => {
    defers := rfl
    size := by simp; omega
    inv := hi
    ext := Ext.refl _ _ _
    rel := fun t d ht => by
      obtain ⟨_, hd⟩ := look_envOf args 0 t d ht
      rw [Nat.sub_zero] at hd
      have hlt : t < args.length := (List.getElem?_eq_some_iff.1 hd).1
      have hv : (vs ++ Array.replicate (fu.ntmps - vs.size) undef).getD t undef = vs[t]'(by omega) := by
        simp [Array.getD, show t < vs.size by omega]
        intro h; omega
      show Rv w G _ ((vs ++ Array.replicate (fu.ntmps - vs.size) undef).getD t undef) d
      rw [hv]
      exact hr t _ d (by simp [show t < vs.size by omega]) hd }
  by_cases hx : ∃ (w : World) (G : Gh) (vs : Array Value), Inv w G (hpF l0) ∧ vs.size = args.length ∧ (∀ (j : Nat) v d, vs[j]? = some v → args[j]? = some d → Rv w G (hpF l0) v d)
  case neg => exact .inl fun w G vs hi hs hr => absurd ⟨w, G, vs, hi, hs, hr⟩ hx
  obtain ⟨o, q1, q2⟩ := goC_lin hm b _ hc
  have fin : ∀ s, finK r R s → ∃ d, R d s.hp ∧ finK r (fun d' l' => d' = d ∧ l' = s.hp) s := fun s h => by
    obtain ⟨o, ds, ⟨k1, k2⟩, k3⟩ := resK_lin r h
    exact ⟨_, k2, k3 _ ⟨k1, rfl, rfl⟩⟩
  match o, q1, q2 with
  | none, _, q2 => exact .inl fun w G vs hi hs hr => calls_of_wp h1 h2 (wp_mono (q2 _ _ _ _ _ (sr w G vs hi hs hr)) fun e a w ⟨s', h, _⟩ => by cases h)
  | some (.normal, s1), q1, q2 =>
    obtain ⟨d, k1, k2⟩ := fin s1 q1
    refine .inr ⟨d, s1.hp, k1, fun w G vs hi hs hr => calls_of_wp h1 h2 (wp_mono (q2 _ _ _ _ _ (sr w G vs hi hs hr)) fun e a w' ⟨s', h, G', x'⟩ => ?_)⟩
    cases h
    obtain ⟨v, d', e1, ⟨e2, e3⟩, e4⟩ := fin_spec x' h3 k2
    exact ⟨x'.defers, v, e1, v, d', s1.hp, G', rfl, ⟨e2, rfl⟩, e4, x'.inv, x'.ext⟩
  | some (.ret, s1), q1, q2 =>
    obtain ⟨d, k1, k2⟩ := fin s1 q1
    refine .inr ⟨d, s1.hp, k1, fun w G vs hi hs hr => calls_of_wp h1 h2 (wp_mono (q2 _ _ _ _ _ (sr w G vs hi hs hr)) fun e a w' ⟨s', h, G', x'⟩ => ?_)⟩
    cases h
    obtain ⟨v, d', e1, ⟨e2, e3⟩, e4⟩ := fin_spec x' h3 k2
    exact ⟨x'.defers, v, e1, v, d', s1.hp, G', rfl, ⟨e2, rfl⟩, e4, x'.inv, x'.ext⟩
theorem CallOK.mono {P : Program} {fn : FuncId} {args : List D} {l0 : List O} {R R' : D → List O → Prop} (h : CallOK P fn args l0 R) (hr : ∀ d l, R d l → R' d l) : CallOK P fn args l0 R' := by
  intro w G vs a b c
  exact (h w G vs a b c).mono fun e w' ⟨v, d', l', G', q1, q2, q3⟩ => ⟨v, d', l', G', q1, hr _ _ q2, q3⟩
/-- A contract with some result. -/
theorem okEx {α : Type} {Q : Program} (hm : Q.follows .mixedOrders = true) {fn : FuncId} {f : F} {args : List D} (R : α → Prop) (d : α → D) (hf : prepF Q fn = some f) (hne : ∃ x, R x)
    (h : ∀ (A : Ar) (P : Program), A.Ok → P = Q → goF A P f args [] fun d' l => ∃ x, R x ∧ A.fin l d' (d x)) (hd : ∀ x, (d x).free = true := by intros; rfl) : ∃ x, R x ∧ Plain Q fn args (d x) := by
  rcases callOK_lin hm hf (h Ar.std Q Ar.std_ok rfl) with h | ⟨d', l, ⟨x, hx, h1⟩, h2⟩
  · obtain ⟨x, hx⟩ := hne
    exact ⟨x, hx, h.mono fun _ _ h => h.elim⟩
  · exact ⟨x, hx, h2.mono fun d2 l2 ⟨e1, e2⟩ => by subst e1; subst e2; exact h1 (hd x)⟩
theorem procEx {α : Type} {Q : Program} (hm : Q.follows .mixedOrders = true) {fn : FuncId} {f : F} {args : RF → List D} {l0 : RF → List O} (R : α → Prop) (d : α → RF → D) (l : α → RF → List O) (hf : prepF Q fn = some f) (hne : ∃ x, R x) (side : ∀ x, R x → Side args l0 (d x) (l x))
    (h : ∀ (A : Ar) (P : Program), A.Ok → P = Q → goF A P f (args id) (l0 id) fun d' l' => ∃ x, R x ∧ A.finv (l0 id) l' d' (l x id) (d x id)) : ∃ x, R x ∧ Proc Q fn args l0 (d x) (l x) := by
  rcases callOK_lin hm hf (h Ar.std Q Ar.std_ok rfl) with h | ⟨d', l', ⟨x, hx, h1⟩, h2⟩
  · obtain ⟨x, hx⟩ := hne
    exact ⟨x, hx, side x hx, h.mono fun _ _ h => h.elim⟩
  · exact ⟨x, hx, side x hx, h2.mono fun d2 l2 ⟨e1, e2⟩ => by subst e1; subst e2; exact h1⟩
end Go.Proofs.Ytfplalbognalkaa.Ab
/- What is written in place is handed on: lent to a call that only looks, or published. -/
namespace Go.Proofs.Ytfplalbognalkaa.Ab
open Go
/-- What is handed back is taken for less, twice. -/
theorem FinV.trans {l0 l1 l2 l3 : List O} {d1 d2 d3 : D} (a : FinV l0 l1 d1 l2 d2) (b : FinV l0 l2 d2 l3 d3) : FinV l0 l1 d1 l3 d3 := by
  intro w G v hi hr
  obtain ⟨G1, r1, i1, e1⟩ := a w G v hi hr
  obtain ⟨G2, r2, i2, e2⟩ := b w G1 v i1 r1
  exact ⟨G2, r2, i2, fun w0 G0 e => e2 _ _ (e1 _ _ e)⟩
/-- A slice that is written in place is published. -/
theorem take_get {ds : List D} {m : Nat} {xs : List E} (h : ds.take m = xs.map .e) {j : Nat} {d : E} (hd : xs[j]? = some d) (hj : j < m) : ds[j]? = some (.e d) := by
  have := congrArg (·[j]?) h
  simp only [List.getElem?_take, if_pos hj, List.getElem?_map, hd] at this
  exact this
theorem vec_pub {w : World} {G : Gh} {h h' : Hp} {i k : Nat} {b : Bool} {ds : List D} {es : List (List E)} (hi : Inv w G h) (hb : h i = .vec b k ds) (hds : ds.take (es.length * k) = es.flatten.map .e) (hk : ∀ e ∈ es, e.length = k) (h1 : h' i = .gone) (h2 : ∀ j, j ≠ i → h' j = h j) :
    ∃ G', Inv w G' h' ∧ Ext w G h w G' h' ∧ ∀ v, Rv w G h v (.vec i es.length k) → Rv w G' h' v (.e (.sl es)) := by
  have hlt : b = true → G.blk i < w.heap.size := fun e => hi.lt i (by rw [hb]; exact e)
  have hfl : es.flatten.length = es.length * k := flatten_len hk
  have hap : ∀ j, j ≠ i → (h j).has = true → b = true → G.blk j ≠ G.blk i := fun j hj hh hbt e => hj (hi.inj _ _ hh (by rw [hb]; exact hbt) e)
  have hx := hx_one (h := h) (h' := h') (i := i) h2 (by rw [hb]; rfl) (by rw [h1]; rfl)
  have x : Ext w G h w ⟨fun x o => G.pub x o ∨ (b = true ∧ x = G.blk i ∧ o < es.length * k), G.blk, G.sg, G.rv, G.rb⟩ h' := {
    os := rfl
    sgm := fun _ _ e => e
    idm := fun j m e => ⟨m, hx.1 j m e⟩
    rvm := fun j R e => ⟨⟨R, hx.2.1 j R e⟩, rfl⟩
    rbnew := fun j R e b hb => .inl ⟨j, R, hx.2.2.2 j R e, hb⟩
    idn := fun j m e => ⟨j, m, hx.2.2.1 j m e⟩
    sgn := fun _ => rfl
    sgw := fun _ _ e => .inl e
    tape := rfl
    output := rfl
    size := Nat.le_refl _
    pub := fun _ _ p => ⟨.inl p, rfl⟩
    box := fun j ds e => by
      have : j ≠ i := fun q => by rw [q, hb] at e; cases e
      exact ⟨⟨ds, by rw [h2 j this, e], rfl⟩, rfl⟩
    tok := fun j n k e => by
      have : j ≠ i := fun q => by rw [q, hb] at e; cases e
      exact ⟨n, by rw [h2 j this, e], Nat.le_refl _, fun _ _ => ⟨rfl, rfl⟩⟩
    others := fun _ _ _ _ => rfl
    new := fun j hj => by
      have : j ≠ i := fun q => by rw [q, h1] at hj; cases hj
      rw [h2 j this] at hj
      exact .inl ⟨j, hj, rfl⟩
    pubnew := fun x o p => by
      rcases p with p | ⟨hbt, rfl, _⟩
      · exact .inl p
      · exact .inr (.inr ⟨i, by rw [hb]; exact hbt, rfl⟩)
    vec := fun j b k ds e => by
      by_cases q : j = i
      · subst q; exact .inl h1
      · exact .inr ⟨ds, by rw [h2 j q, e], Nat.le_refl _, fun _ => ⟨rfl, rfl⟩⟩
    gone := fun j e => by
      have : j ≠ i := fun q => by rw [q, hb] at e; cases e
      rw [h2 j this, e]
    smap := fun j l e => by
      have : j ≠ i := fun q => by rw [q, hb] at e; cases e
      exact ⟨⟨l, by rw [h2 j this, e]⟩, rfl⟩ }
  have xk := XOk.step (w' := w) (G' := ⟨fun x o => G.pub x o ∨ (b = true ∧ x = G.blk i ∧ o < es.length * k), G.blk, G.sg, G.rv, G.rb⟩) (h' := h') hi.x x.size rfl rfl rfl hx.2.2.1 hx.2.2.2 x.new x.pubnew fun _ _ _ => rfl
  refine ⟨_, ⟨fun j hj => ?_, fun j j' hj hj' e => ?_, fun x o p => ?_, fun j ds e => ?_, fun j n k' e hn => ?_, fun j b' k' ds e => ?_, fun j l e => ?_, xk⟩, x, fun v hv => ?_⟩
  · have : j ≠ i := fun q => by rw [q, h1] at hj; cases hj
    rw [h2 j this] at hj
    exact hi.lt j hj
  · have q : j ≠ i := fun q => by rw [q, h1] at hj; cases hj
    have q' : j' ≠ i := fun q => by rw [q, h1] at hj'; cases hj'
    rw [h2 j q] at hj
    rw [h2 j' q'] at hj'
    exact hi.inj _ _ hj hj' e
  · rcases p with p | ⟨hbt, rfl, _⟩
    · exact hi.publt _ _ p
    · exact hlt hbt
  · have q : j ≠ i := fun q => by rw [q, h1] at e; cases e
    rw [h2 j q] at e
    obtain ⟨a1, cs, T, a2, a3, a4⟩ := hi.box j ds e
    refine ⟨fun o p => ?_, cs, T, a2, a3, fun m c d hc hd => ⟨(a4 m c d hc hd).1.ext x, (a4 m c d hc hd).2⟩⟩
    rcases p with p | ⟨hbt, p, _⟩
    · exact a1 o p
    · exact hap j q (by rw [e]; rfl) hbt p
  · have q : j ≠ i := fun q => by rw [q, h1] at e; cases e
    rw [h2 j q] at e
    obtain ⟨a1, a2⟩ := hi.front j n k' e hn
    refine ⟨a1, fun o ho p => ?_⟩
    rcases p with p | ⟨hbt, p, _⟩
    · exact a2 o ho p
    · exact hap j q (by rw [e]; simp [O.has, hn]) hbt p
  · have q : j ≠ i := fun q => by rw [q, h1] at e; cases e
    rw [h2 j q] at e
    obtain ⟨a0, a⟩ := hi.vec j b' k' ds e
    refine ⟨a0, fun hb' => ?_⟩
    obtain ⟨a1, cs, T, a2, a3, a4⟩ := a hb'
    refine ⟨fun o p => ?_, cs, T, a2, a3, fun m c d hc hd => ⟨(a4 m c d hc hd).1.ext x, (a4 m c d hc hd).2⟩⟩
    rcases p with p | ⟨hbt, p, _⟩
    · exact a1 o p
    · exact hap j q (by rw [e]; exact hb') hbt p
  · have q : j ≠ i := fun q => by rw [q, h1] at e; cases e
    rw [h2 j q] at e
    obtain ⟨a1, es', ck, a2, a3, a4⟩ := hi.smap j l e
    refine ⟨fun o p => ?_, es', ck, a2, a3, fun m e p a b => ⟨(a4 m e p a b).1, (a4 m e p a b).2.mono x.pub x.sgm⟩⟩
    rcases p with p | ⟨hbt, p, _⟩
    · exact a1 o p
    · exact hap j q (by rw [e]; rfl) hbt p
  · obtain ⟨a, cap, rfl, _, hm, hnc, hvo⟩ := rv_vec hv
    obtain ⟨_, hlen, hf, ht⟩ := hvo _ _ _ hb
    refine .e ?_
    cases b with
    | false =>
      obtain ⟨h0, rfl, hsp⟩ := hf rfl
      have : es = [] := List.length_eq_zero_iff.1 h0
      subst this
      exact .nils fun _ => rfl
    | true =>
      obtain ⟨rfl, _⟩ := ht rfl
      obtain ⟨uu, hu1, hu2⟩ := vec_cells hi hb
      have hlen : es.length * k ≤ ds.length := by have := congrArg List.length hds; rw [List.length_take, List.length_map, hfl] at this; omega
      refine .sl (k := k) uu rfl hnc hm hk (fun j hj => ?_) (fun j d hd => ?_)
      · rw [Nat.zero_add]
        exact ⟨.inr ⟨rfl, rfl, hj⟩, hu1 j (by omega)⟩
      · have hj : j < es.length * k := by rw [← hfl]; exact (List.getElem?_eq_some_iff.1 hd).1
        have := (hu2 j (.e d) (take_get hds hd hj)).1
        exact (rv_e this).mono x.pub x.sgm
theorem hpF_set {l : List O} {i : Nat} {o : O} (hi : i < l.length) : hpF (l.set i o) i = o ∧ ∀ j, j ≠ i → hpF (l.set i o) j = hpF l j := by
  refine ⟨by simp [hpF, List.getD, hi], fun j hj => ?_⟩
  simp [hpF, List.getD, List.getElem?_set_ne (Ne.symm hj)]
theorem hp_lt {l : List O} {i : Nat} (h : hpF l i ≠ .dead) : i < l.length := by
  rcases Nat.lt_or_ge i l.length with q | q
  · exact q
  · exact absurd (hpF_ge q) h
/-- A slot's slice, published, in the state. -/
theorem Weak.pub {h0 : Hp} {env : List (Nat × D)} {hp : List O} (t i n k : Nat) {b : Bool} {ds : List D} {es : List (List E)} (ht : look t env = some (.vec i n k)) (hb : hpF hp i = .vec b k ds) (hn : es.length = n) (hds : ds.take (n * k) = es.flatten.map .e) (hk : ∀ e ∈ es, e.length = k) :
    Weak h0 ⟨env, hp⟩ ⟨(t, .e (.sl es)) :: env, hp.set i .gone⟩ := by
  intro w G hi
  have hlt : i < hp.length := hp_lt (by rw [hb]; simp)
  obtain ⟨a1, a2⟩ := hpF_set (o := .gone) hlt
  obtain ⟨G', i1, x1, r1⟩ := vec_pub hi hb (by rw [hn]; exact hds) hk a1 a2
  refine ⟨G', i1, fun w0 G0 e => e.trans x1, fun t' d' hl => ?_⟩
  simp only [look] at hl
  split at hl
  · rename_i e
    subst e
    cases hl
    exact ⟨_, ht, fun v r => r1 v (by rw [hn]; exact r)⟩
  · exact ⟨d', hl, fun v r => r.ext x1⟩
/-- What is handed back, published. -/
theorem FinV.pub {l0 l : List O} {i n k : Nat} {b : Bool} {ds : List D} {es : List (List E)} (hb : hpF l i = .vec b k ds) (hn : es.length = n) (hds : ds.take (n * k) = es.flatten.map .e) (hk : ∀ e ∈ es, e.length = k) : FinV l0 l (.vec i n k) (l.set i .gone) (.e (.sl es)) := by
  intro w G v hi hr
  obtain ⟨a1, a2⟩ := hpF_set (o := .gone) (hp_lt (by rw [hb]; simp))
  obtain ⟨G', i1, x1, r1⟩ := vec_pub hi hb (by rw [hn]; exact hds) hk a1 a2
  exact ⟨G', r1 v (by rw [hn]; exact hr), i1, fun w0 G0 e => e.trans x1⟩
/-- The same, of a function that has been handed nothing that is still written. -/
theorem fin_vec {l : List O} {i n k : Nat} {b : Bool} {ds : List D} {es : List (List E)} (hb : hpF l i = .vec b k ds) (hn : es.length = n) (hds : ds.take (n * k) = es.flatten.map .e) (hk : ∀ e ∈ es, e.length = k) : FinW l (.vec i n k) (.e (.sl es)) := by
  intro w G v hi hr
  obtain ⟨G1, r1, i1, e1⟩ := FinV.pub (l0 := []) hb hn hds hk w G v hi hr
  obtain ⟨G2, r2, i2, e2⟩ := fin_pl (l := l.set i .gone) (d' := .e (.sl es)) (d := .e (.sl es)) rfl rfl w G1 v i1 r1
  exact ⟨G2, r2, i2, fun w0 G0 e => e2 _ _ (e1 _ _ e)⟩
theorem Ar.Ok.fin_vec {A : Ar} (h : A.Ok) {l : List O} {i n k : Nat} {b : Bool} {ds : List D} {es : List (List E)} (hb : hpF l i = .vec b k ds) (hn : es.length = n) (hds : ds.take (n * k) = es.flatten.map .e) (hk : ∀ e ∈ es, e.length = k) : A.fin l (.vec i n k) (.e (.sl es)) :=
  h.fin _ _ _ fun _ => Ab.fin_vec hb hn hds hk
/-! ### Lent to a call -/
mutual
/-- Nothing in it leads into memory. -/
def D.sc : D → Bool
  | .e (.v _) => true
  | .agg ds => scs ds
  | .tup ds => scs ds
  | _ => false
def scs : List D → Bool
  | [] => true
  | d :: r => d.sc && scs r
end
theorem scs_get : ∀ {ds : List D} {j : Nat} {d : D}, scs ds = true → ds[j]? = some d → d.sc = true
  | [], j, d, _, hd => by simp at hd
  | x :: r, 0, d, h, hd => by
    simp only [scs, Bool.and_eq_true] at h
    simp at hd; subst hd; exact h.1
  | x :: r, j + 1, d, h, hd => by
    simp only [scs, Bool.and_eq_true] at h
    exact scs_get h.2 (by simpa using hd)
theorem Rv.sc {w : World} {G : Gh} {h : Hp} {v : Value} {d : D} (r : Rv w G h v d) {w' : World} {G' : Gh} {h' : Hp} (hs : d.sc = true) : Rv w' G' h' v d := by
  induction r with
  | @e x d h =>
    cases d with
    | v y => cases h with | v h => exact .e (.v h)
    | _ => simp [D.sc] at hs
  | agg hl h1 _ ih => exact .agg hl h1 fun j c d hc hd => ih j c d hc hd (scs_get (by simpa [D.sc] using hs) hd)
  | tup hl _ ih => exact .tup hl fun j c d hc hd => ih j c d hc hd (scs_get (by simpa [D.sc] using hs) hd)
  | _ => simp [D.sc] at hs
/-- What an argument is for a call that only looks. -/
def Lent (h : Hp) (L : List Nat) (d a : D) : Prop :=
  (a = d ∧ d.free = true) ∨ (a = d.pl ∧ d.pl.free = true) ∨
  (∃ i n k b ds es, d = .vec i n k ∧ i ∈ L ∧ h i = .vec b k ds ∧ a = .e (.sl es) ∧ ds.take (n * k) = es.flatten.map .e ∧ es.length = n ∧ ∀ e ∈ es, e.length = k) ∨
  (∃ i n k ds es, d = .bs i 0 n k ∧ i ∈ L ∧ h i = .box ds ∧ a = .e (.sl es) ∧ ds.take (n * k) = es.flatten.map .e ∧ es.length = n ∧ ∀ e ∈ es, e.length = k)
def Lents (h : Hp) (L : List Nat) : List D → List D → Prop
  | [], [] => True
  | d :: r, a :: s => Lent h L d a ∧ Lents h L r s
  | _, _ => False
theorem Lents.len {h : Hp} {L : List Nat} : ∀ {ds az : List D}, Lents h L ds az → az.length = ds.length
  | [], [], _ => rfl
  | _ :: _, _ :: _, x => by simp [Lents.len x.2]
  | [], _ :: _, x => x.elim
  | _ :: _, [], x => x.elim
theorem Lents.get {h : Hp} {L : List Nat} : ∀ {ds az : List D} {j : Nat} {a : D}, Lents h L ds az → az[j]? = some a → ∃ d, ds[j]? = some d ∧ Lent h L d a
  | [], [], j, _, _, e => by simp at e
  | d :: _, _ :: _, 0, _, x, e => by simp at e; subst e; exact ⟨d, by simp, x.1⟩
  | _ :: _, _ :: _, j + 1, _, x, e => by obtain ⟨d, h1, h2⟩ := Lents.get x.2 (by simpa using e); exact ⟨d, by simpa using h1, h2⟩
  | [], _ :: _, _, _, x, _ => x.elim
  | _ :: _, [], _, _, x, _ => x.elim
/-- All of memory, looked at. -/
def allPub (w : World) (G : Gh) : Gh := ⟨fun b _ => b < w.heap.size, G.blk, G.sg, G.rv, G.rb⟩
theorem allPub_inv {w : World} {G : Gh} {h : Hp} (hi : Inv w G h) : Inv w (allPub w G) (hpF []) := by
  rw [hpF_nil]
  exact ⟨fun i h => by simp [O.has] at h, fun i j h => by simp [O.has] at h, fun _ _ p => p, fun i ds e => by simp at e, fun i n k e => by simp at e, fun i b k ds e => by simp at e, fun i l e => by simp at e, ⟨fun j b e => ⟨(hi.x.sgs j b e).1, (fun i hh => by simp [O.has] at hh), (hi.x.sgs j b e).2.2⟩, hi.x.sgi, fun i m e => by simp at e, fun i j m m' e => by simp at e, fun i R e => by simp at e⟩⟩
theorem Rv.freeMono {w : World} {G : Gh} {h : Hp} {v : Value} {d : D} (r : Rv w G h v d) {G' : Gh} {h' : Hp} (hf : d.free = true) (hp : ∀ b o, G.pub b o → G'.pub b o) (hg : ∀ j b, G.sg j = some b → G'.sg j = some b) : Rv w G' h' v d := by
  induction r with
  | e h => exact .e (h.mono (fun b o p => ⟨hp b o p, rfl⟩) hg)
  | agg hl h1 _ ih => exact .agg hl h1 fun j c d hc hd => ih j c d hc hd (frees_get (by simpa [D.free] using hf) hd)
  | own _ _ _ => simp [D.free] at hf
  | zs ha => exact .zs ha
  | bs _ _ _ _ => simp [D.free] at hf
  | rp u hu hr => exact .rp u (fun j hj => ⟨hp _ _ (hu j hj).1, (hu j hj).2⟩) fun j d hd => (hr j d hd).mono (fun b o p => ⟨hp b o p, rfl⟩) hg
  | ref _ => simp [D.free] at hf
  | refs _ => simp [D.free] at hf
  | tup hl _ ih => exact .tup hl fun j c d hc hd => ih j c d hc hd (frees_get (by simpa [D.free] using hf) hd)
  | when _ hu ih => exact .when (fun e => ih e (by simpa [D.free] using hf)) hu
  | fn hl _ hl' _ ih ih' =>
    simp only [D.free, Bool.and_eq_true] at hf
    exact .fn hl (fun j c d hc hd => ih j c d hc hd (frees_get hf.1 hd)) hl' fun j c d hc hd => ih' j c d hc hd (frees_get hf.2 hd)
  | vec _ _ _ _ => simp [D.free] at hf
  | vref _ _ => simp [D.free] at hf
  | mp _ => simp [D.free] at hf
  | any => exact .any
  | rv _ _ => simp [D.free] at hf
theorem lent_rv {w : World} {G : Gh} {h h' : Hp} {L : List Nat} (hi : Inv w G h') (he : ∀ i ∈ L, h' i = h i) {d a : D} (x : Lent h L d a) {v : Value} (r : Rv w G h' v d) : Rv w (allPub w G) (hpF []) v a := by
  have cell_lt : ∀ {b o : Nat} {u : Value}, w.cell? ⟨b, o, none⟩ = some u → b < w.heap.size := fun {b o u} e => by
    simp only [World.cell?] at e
    split at e
    · rename_i hb
      exact (Array.getElem?_eq_some_iff.1 hb).1
    · cases e
  rcases x with ⟨rfl, hf⟩ | ⟨rfl, hf⟩ | ⟨i, n, k, b, ds, es, rfl, hL, hb, rfl, h1, h2, h3⟩ | ⟨i, n, k, ds, es, rfl, hL, hb, rfl, h1, h2, h3⟩
  · exact r.freeMono hf hi.publt fun _ _ e => e
  · exact r.pl.freeMono hf hi.publt fun _ _ e => e
  · rw [← he i hL] at hb
    have hfl : es.flatten.length = n * k := by rw [flatten_len h3, h2]
    obtain ⟨a, cap, rfl, _, hm, hnc, hvo⟩ := rv_vec r
    obtain ⟨_, hlen, hff, ht⟩ := hvo _ _ _ hb
    refine .e ?_
    cases b with
    | false =>
      obtain ⟨rfl, rfl, _⟩ := hff rfl
      have : es = [] := List.length_eq_zero_iff.1 h2
      subst this
      exact .nils fun _ => rfl
    | true =>
      obtain ⟨rfl, _⟩ := ht rfl
      obtain ⟨uu, hu1, hu2⟩ := vec_cells hi hb
      refine .sl uu h2 hnc hm h3 (fun j hj => ?_) (fun j d hd => ?_)
      · rw [Nat.zero_add]
        have := hu1 j (by omega)
        exact ⟨cell_lt this, this⟩
      · have hj : j < n * k := by rw [← hfl]; exact (List.getElem?_eq_some_iff.1 hd).1
        exact (rv_e (hu2 j (.e d) (take_get h1 hd hj)).1).mono (G' := allPub w G) (fun b o p => ⟨hi.publt b o p, rfl⟩) fun _ _ e => e
  · rw [← he i hL] at hb
    have hfl : es.flatten.length = n * k := by rw [flatten_len h3, h2]
    refine .e ?_
    cases r with
    | bs hb' hcap hl hm =>
      rename_i cap ds' b o
      rw [hb] at hb'
      cases hb'
      rcases hl with rfl | ⟨rfl, rfl, hsz⟩
      · have : es = [] := List.length_eq_zero_iff.1 h2
        subst this
        exact .sl (k := k) (fun _ => undef) rfl hcap hm h3 (fun j hj => by simp at hj) (fun j d hd => by simp at hd)
      · obtain ⟨uu, hu1, hu2⟩ := box_cells hi hb
        have hle : n * k ≤ cap * k := Nat.mul_le_mul_right k hcap
        refine .sl uu h2 hcap hm h3 (fun j hj => ?_) (fun j d hd => ?_)
        · rw [Nat.zero_add]
          have := hu1 j (by omega)
          exact ⟨cell_lt this, this⟩
        · have hj : j < n * k := by rw [← hfl]; exact (List.getElem?_eq_some_iff.1 hd).1
          exact (rv_e (hu2 j (.e d) (take_get h1 hd hj)).1).mono (G' := allPub w G) (fun b o p => ⟨hi.publt b o p, rfl⟩) fun _ _ e => e
/-- Behind a call that only looked: memory is as it was. -/
theorem frame_look {w w' : World} {G G1 : Gh} {h h1 : Hp} (hi : Inv w G h) (he : Ext w (allPub w G) (hpF []) w' G1 h1) : Inv w' G h ∧ Ext w G h w' G h := by
  rw [hpF_nil] at he
  have row : ∀ b, b < w.heap.size → w'.heap[b]? = w.heap[b]? := fun b hb => he.others b hb (fun j hj => by simp [O.has] at hj) fun j R e => by simp at e
  have ext : Ext w G h w' G h := {
    os := he.os
    sgm := fun _ _ e => e
    idm := fun j m e => ⟨m, e⟩
    rvm := fun j R e => ⟨⟨R, e⟩, rfl⟩
    rbnew := fun j R e b hb => .inl ⟨j, R, e, hb⟩
    idn := fun j m e => ⟨j, m, e⟩
    sgn := fun _ => rfl
    sgw := fun _ _ e => .inl e
    tape := he.tape
    output := he.output
    size := he.size
    pub := fun b o p => ⟨p, by simp only [World.cell?]; rw [row b (hi.publt b o p)]⟩
    box := fun i ds e => ⟨⟨ds, e, rfl⟩, rfl⟩
    tok := fun i n k e => ⟨n, e, Nat.le_refl _, fun _ hn => ⟨rfl, by simp only [World.shape?]; rw [row _ (hi.lt i (by rw [e]; simp [O.has, hn]))]⟩⟩
    others := fun b hb _ _ => row b hb
    new := fun i hi => .inl ⟨i, hi, rfl⟩
    vec := fun i b k ds e => .inr ⟨ds, e, Nat.le_refl _, fun hb => ⟨rfl, by simp only [World.shape?]; rw [row _ (hi.lt i (by rw [e]; exact hb))]⟩⟩
    gone := fun _ e => e
    smap := fun _ l e => ⟨⟨l, e⟩, rfl⟩
    pubnew := fun b o p => .inl p }
  refine ⟨⟨fun i hh => Nat.lt_of_lt_of_le (hi.lt i hh) he.size, hi.inj, fun b o p => Nat.lt_of_lt_of_le (hi.publt b o p) he.size, fun i ds e => ?_, fun i n k e hn => ?_, fun i b k ds e => ?_, fun i l e => ?_, hi.x.step he.size rfl rfl rfl (fun _ _ e => e) (fun _ _ e => e) ext.new ext.pubnew fun b hb _ => row b hb⟩, ext⟩
  · obtain ⟨a1, cs, T, a2, a3, a4⟩ := hi.box i ds e
    exact ⟨a1, cs, T, by rw [← a2]; exact row _ (hi.lt i (by rw [e]; rfl)), a3, fun j c d hc hd => ⟨(a4 j c d hc hd).1.ext ext, (a4 j c d hc hd).2⟩⟩
  · obtain ⟨⟨cs, T, a1⟩, a2⟩ := hi.front i n k e hn
    exact ⟨⟨cs, T, by rw [← a1]; exact row _ (hi.lt i (by rw [e]; simp [O.has, hn]))⟩, a2⟩
  · obtain ⟨a0, a⟩ := hi.vec i b k ds e
    refine ⟨a0, fun hb => ?_⟩
    obtain ⟨a1, cs, T, a2, a3, a4⟩ := a hb
    exact ⟨a1, cs, T, by rw [← a2]; exact row _ (hi.lt i (by rw [e]; exact hb)), a3, fun j c d hc hd => ⟨(a4 j c d hc hd).1.ext ext, (a4 j c d hc hd).2⟩⟩
  · obtain ⟨a1, es, ck, a2, a3, a4⟩ := hi.smap i l e
    exact ⟨a1, es, ck, by rw [← a2]; exact row _ (hi.lt i (by rw [e]; rfl)), a3, fun j e p a b => ⟨(a4 j e p a b).1, (a4 j e p a b).2.mono ext.pub ext.sgm⟩⟩
theorem Plain.callL {P : Program} {fn : FuncId} {ds args : List D} {d : D} {h0 : Hp} {L : List Nat} (h : Plain P fn args d) (ha : Lents h0 L ds args) (hd : d.sc = true) (f : Nat) : CallE P fn ds (L.map fun i => (i, h0 i)) f { d := some d, tc := L } := by
  intro w G hh h' vs hi hpre _ he hs hr
  have e' : h' = hh := by
    funext i
    rw [he i]
    simp only [List.length_nil, Nat.add_zero, List.find?_nil]
    rw [if_neg (by omega)]
  subst e'
  refine (h w (allPub w G) vs (allPub_inv hi) (by rw [hs, ha.len]) fun j v x hv hx => ?_).mono fun e w' ⟨v, d', l', G1, q1, q2, q3, q4, q5⟩ => ?_
  · obtain ⟨d0, h1, h2⟩ := ha.get hx
    exact lent_rv hi (fun i hL => hpre i _ (List.mem_map.2 ⟨i, hL, rfl⟩)) h2 (hr j v d0 hv h1)
  · obtain ⟨G2, r1, r2, r3⟩ := q2 w' G1 v q4 q3
    obtain ⟨i1, x1⟩ := frame_look hi (r3 _ _ q5)
    exact ⟨v, d, G, q1, rfl, r1.sc hd, i1, x1⟩
/-- A call that only looks at what is still written: its result leads nowhere. -/
theorem callK_look {A : Ar} (hA : A.Ok) {P Q : Program} (e : P = Q) {hp : Hp} {f : Nat} {gd g : Bool} {fn : FuncId} {ds args : List D} {d : D} {o : Prop} {K : Prop → Eff → Prop} (L : List Nat)
    (ha : Lents hp L ds args) (hd : d.sc = true) (hk : K o { d := some (if gd then .when g d else d), tc := L }) (h : g = true → o → Plain Q fn args d) : A.call P hp f gd g fn ds o K :=
  hA.call _ _ _ _ _ _ _ _ _ ⟨ds, L.map fun i => (i, hp i), { d := some d, tc := L }, Wks.refl _, (fun hg ho => e ▸ (h hg ho).callL ha hd f), (fun i o hm => by
    obtain ⟨i', _, e⟩ := List.mem_map.1 hm
    cases e; rfl), fun _ _ => ⟨rfl, rfl⟩, fun _ h => (List.not_mem_nil h).elim, by simp [Function.comp_def], d, rfl, hk⟩
end Go.Proofs.Ytfplalbognalkaa.Ab
/- Calls that leave what they are handed as it was. -/
namespace Go.Proofs.Ytfplalbognalkaa.Ab
open Go
theorem Proc.callRO {P : Program} {fn : FuncId} {args : RF → List D} {l0 : RF → List O} {d : RF → D} (h : Proc P fn args l0 d l0) {L : List Nat} {f : Nat} (hL : L.length = (l0 id).length) (hn : ndB L = true) (hf : ∀ i ∈ L, i < f) :
    CallE P fn (args (num L f)) (L.zip (l0 (num L f))) f { d := some (d (num L f)), tc := L } := by
  intro w G hh h' vs hi hpre hal hh' hs hr
  have e' : h' = hh := by
    funext i
    rw [hh' i]
    simp only [List.length_nil, Nat.add_zero, List.find?_nil]
    rw [if_neg (by omega)]
  subst e'
  have ll : (l0 (num L f)).length = L.length := by rw [h.side.r0, List.length_map, hL]
  have hd : (l0 (num L f)).drop L.length = [] := List.drop_eq_nil_of_le (by omega)
  have ht : (l0 (num L f)).take L.length = l0 (num L f) := List.take_of_length_le (by omega)
  refine (h.callE hL hn hf) w G h' h' vs hi hpre (fun j hj => ?_) (fun i => ?_) hs hr
  · simp only [hd, List.length_nil] at hj
    omega
  · simp only [hd, ht, List.length_nil, Nat.add_zero]
    rw [if_neg (by omega)]
    cases hf2 : (L.zip (l0 (num L f))).find? (·.1 == i) with
    | none => rfl
    | some x =>
      have h1 := List.mem_of_find?_eq_some hf2
      have h2 := List.find?_some hf2
      simp only [beq_iff_eq] at h2
      rw [← h2]
      exact hpre x.1 x.2 h1
theorem callK_ro {A : Ar} (hA : A.Ok) {P Q : Program} (e : P = Q) {hp : Hp} {f : Nat} {gd g : Bool} {fn : FuncId} {ds : List D} {o : Prop} {K : Prop → Eff → Prop} {args : RF → List D} {l0 : RF → List O} {d : RF → D} (L : List Nat)
    (hn : (ndB L && L.all (· < f)) = true) (hpre : hpAll hp L (l0 (num L f))) (hw : Wks ds (args (num L f)))
    (hk : K o { d := some (if gd then .when g (d (num L f)) else d (num L f)), tc := L })
    (h : g = true → o → Proc Q fn args l0 d l0) (hs : Side args l0 d l0) : A.call P hp f gd g fn ds o K := by
  have hL : L.length = (l0 id).length := by rw [hpAll_len hpre, hs.r0, List.length_map]
  simp only [Bool.and_eq_true, List.all_eq_true, decide_eq_true_eq] at hn
  refine hA.call _ _ _ _ _ _ _ _ _ ⟨args (num L f), L.zip (l0 (num L f)), _, hw, fun hg ho => e ▸ (h hg ho).callRO hL hn.1 hn.2, hpAll_mem hpre, fun _ _ => ⟨rfl, rfl⟩, fun x hx => (List.not_mem_nil hx).elim, ?_, d (num L f), rfl, by simpa using hk⟩
  rw [List.map_fst_zip]
  rw [← hpAll_len hpre]; exact Nat.le_refl _
end Go.Proofs.Ytfplalbognalkaa.Ab
/- What is handed back gets a number: a slice that nobody else holds. -/
namespace Go.Proofs.Ytfplalbognalkaa.Ab
open Go
/-- The ghost in which block x, as far as n cells go, is written no more and has the number m. -/
def Gh.seal (G : Gh) (x n m z : Nat) : Gh := ⟨fun b o => G.pub b o ∨ (b = x ∧ o < n), G.blk, fun j => if j = m then some (x, z) else G.sg j, G.rv, G.rb⟩
theorem ids_hp {m i : Nat} : hpF [O.ids m] i = if i = 0 then .ids m else .dead := by
  cases i <;> simp [hpF]
theorem seal_mono {w : World} {G : Gh} {h : Hp} {t m x n z : Nat} (hi : Inv w G h) (ht : h t = .ids m) {v : Value} {e : E} (r : RvE w G v e) : RvE w (G.seal x n m z) v e :=
  r.mono (G' := G.seal x n m z) (fun _ _ p => ⟨.inl p, rfl⟩) fun j b e => by
    simp only [Gh.seal]
    rw [if_neg (fun q => by rw [hi.x.ids _ _ ht j (by omega)] at e; cases e)]
    exact e
/-- A block of one's own, behind a function that has been handed nothing but the numbers. -/
theorem seal_out {w : World} {G : Gh} {l : List O} {m0 m t i n z : Nat} (hi : Inv w G (hpF l)) (ht : hpF l t = .ids m) (hh : (hpF l i).has = true) (hz : ∃ cs T, w.heap[G.blk i]? = some (.cells cs T (0, 0)) ∧ z ≤ cs.size) :
    Inv w (G.seal (G.blk i) n m z) (hpF [.ids (m + 1)]) ∧ ∀ w0 G0, Ext w0 G0 (hpF [.ids m0]) w G (hpF l) → Ext w0 G0 (hpF [.ids m0]) w (G.seal (G.blk i) n m z) (hpF [.ids (m + 1)]) := by
  have hlt : G.blk i < w.heap.size := hi.lt i hh
  have nh : ∀ j k, (hpF [O.ids k] j).has = false := fun j k => by rw [ids_hp]; split <;> rfl
  have no : ∀ {j k : Nat} {o : O}, hpF [O.ids k] j = o → (∀ m, o ≠ .ids m) → o = .dead := fun {j k o} e h1 => by
    rw [ids_hp] at e
    split at e
    · exact absurd e.symm (h1 _)
    · exact e.symm
  have sg : ∀ j b, (G.seal (G.blk i) n m z).sg j = some b → (j = m ∧ b = (G.blk i, z)) ∨ (j ≠ m ∧ G.sg j = some b) := fun j b e => by
    simp only [Gh.seal] at e
    split at e
    · cases e; exact .inl ⟨by assumption, rfl⟩
    · exact .inr ⟨by assumption, e⟩
  refine ⟨⟨fun j h => ?_, fun j k h => ?_, fun b o p => ?_, fun j ds e => ?_, fun j n k e => ?_, fun j b k ds e => ?_, fun j l e => ?_, ⟨fun j b e => ?_, fun j k b c e1 e2 e3 => ?_, fun j m' e k hk => ?_, fun j k m1 m2 e1 e2 => ?_, fun j R e => ?_⟩⟩, fun w0 G0 e => ?_⟩
  · rw [nh] at h; cases h
  · rw [nh] at h; cases h
  · rcases p with p | ⟨rfl, _⟩
    · exact hi.publt b o p
    · exact hlt
  · have := no e (by simp); cases this
  · have := no e (by simp); cases this
  · have := no e (by simp); cases this
  · have := no e (by simp); cases this
  · rcases sg j b e with ⟨_, rfl⟩ | ⟨_, e⟩
    · exact ⟨hlt, fun k h => (by rw [nh] at h; cases h), hz⟩
    · exact ⟨(hi.x.sgs j b e).1, fun k h => (by rw [nh] at h; cases h), (hi.x.sgs j b e).2.2⟩
  · rcases sg j b e1 with ⟨a1, a2⟩ | ⟨a1, a2⟩ <;> rcases sg k c e2 with ⟨c1, c2⟩ | ⟨c1, c2⟩
    · omega
    · exact absurd (by rw [← e3, a2]) ((hi.x.sgs k _ c2).2.1 i hh)
    · exact absurd (by rw [e3, c2]) ((hi.x.sgs j _ a2).2.1 i hh)
    · exact hi.x.sgi j k b c a2 c2 e3
  · rw [ids_hp] at e
    split at e
    · cases e
      simp only [Gh.seal]
      rw [if_neg (by omega)]
      exact hi.x.ids _ _ ht k (by omega)
    · cases e
  · rw [ids_hp] at e1 e2
    split at e1
    · split at e2
      · omega
      · cases e2
    · cases e1
  · have := no e (by simp); cases this
  · have fresh : w0.heap.size ≤ G.blk i := by
      rcases e.new i hh with ⟨j, q, _⟩ | q
      · rw [nh] at q; cases q
      · exact q
    refine ⟨e.os, e.tape, e.output, e.size, fun b o p => ⟨.inl (e.pub b o p).1, (e.pub b o p).2⟩, fun j ds q => ?_, fun j n k q => ?_, fun b hb h1 h2 => e.others b hb h1 h2, fun j h => ?_, fun b o p => ?_, fun j b k ds q => ?_, fun j q => ?_, fun j l q => ?_, fun j b q => ?_, fun j m' q => ?_, fun j R q => ?_, fun j R q => ?_, fun j m' q => ?_, fun q => ?_, fun j b q => ?_⟩
    · have := no q (by simp); cases this
    · have := no q (by simp); cases this
    · rw [nh] at h; cases h
    · rcases p with p | ⟨rfl, _⟩
      · exact e.pubnew b o p
      · exact .inr (.inl fresh)
    · have := no q (by simp); cases this
    · have := no q (by simp); cases this
    · have := no q (by simp); cases this
    · have q := e.sgm j b q
      simp only [Gh.seal]
      rw [if_neg (fun q2 => by rw [hi.x.ids _ _ ht j (by omega)] at q; cases q)]
      exact q
    · rw [ids_hp] at q
      split at q
      · rename_i q0; subst q0; exact ⟨m + 1, rfl⟩
      · cases q
    · have := no q (by simp); cases this
    · have := no q (by simp); cases this
    · rw [ids_hp] at q
      split at q
      · exact ⟨0, m0, rfl⟩
      · cases q
    · exact absurd rfl (q 0 m0)
    · rcases sg j b q with ⟨_, rfl⟩ | ⟨_, q⟩
      · exact .inr (.inl fresh)
      · exact e.sgw j b q
/-- All else is let go. -/
theorem tok_out {w : World} {G : Gh} {l : List O} {m0 m m1 t : Nat} (hi : Inv w G (hpF l)) (ht : hpF l t = .ids m) (hm : m ≤ m1) :
    Inv w G (hpF [.ids m1]) ∧ ∀ w0 G0, Ext w0 G0 (hpF [.ids m0]) w G (hpF l) → Ext w0 G0 (hpF [.ids m0]) w G (hpF [.ids m1]) := by
  have nh : ∀ j k, (hpF [O.ids k] j).has = false := fun j k => by rw [ids_hp]; split <;> rfl
  have no : ∀ {j k : Nat} {o : O}, hpF [O.ids k] j = o → (∀ m, o ≠ .ids m) → o = .dead := fun {j k o} e h1 => by
    rw [ids_hp] at e
    split at e
    · exact absurd e.symm (h1 _)
    · exact e.symm
  refine ⟨⟨fun j h => ?_, fun j k h => ?_, hi.publt, fun j ds e => ?_, fun j n k e => ?_, fun j b k ds e => ?_, fun j l e => ?_, ⟨fun j b e => ⟨(hi.x.sgs j b e).1, fun k h => (by rw [nh] at h; cases h), (hi.x.sgs j b e).2.2⟩, hi.x.sgi, fun j m' e k hk => ?_, fun j k m1 m2 e1 e2 => ?_, fun j R e => ?_⟩⟩, fun w0 G0 e => ?_⟩
  · rw [nh] at h; cases h
  · rw [nh] at h; cases h
  · have := no e (by simp); cases this
  · have := no e (by simp); cases this
  · have := no e (by simp); cases this
  · have := no e (by simp); cases this
  · rw [ids_hp] at e
    split at e
    · cases e
      exact hi.x.ids _ _ ht k (by omega)
    · cases e
  · rw [ids_hp] at e1 e2
    split at e1
    · split at e2
      · omega
      · cases e2
    · cases e1
  · have := no e (by simp); cases this
  · refine ⟨e.os, e.tape, e.output, e.size, e.pub, fun j ds q => ?_, fun j n k q => ?_, e.others, fun j h => ?_, e.pubnew, fun j b k ds q => ?_, fun j q => ?_, fun j l q => ?_, e.sgm, fun j m' q => ?_, fun j R q => ?_, fun j R q => ?_, fun j m' q => ?_, fun q => ?_, e.sgw⟩
    · have := no q (by simp); cases this
    · have := no q (by simp); cases this
    · rw [nh] at h; cases h
    · have := no q (by simp); cases this
    · have := no q (by simp); cases this
    · have := no q (by simp); cases this
    · rw [ids_hp] at q
      split at q
      · rename_i q0; subst q0; exact ⟨m1, rfl⟩
      · cases q
    · have := no q (by simp); cases this
    · have := no q (by simp); cases this
    · rw [ids_hp] at q
      split at q
      · exact ⟨0, m0, rfl⟩
      · cases q
    · exact absurd rfl (q 0 m0)
/-- A buffer is handed back, with a number. -/
theorem finv_bsFs {l : List O} {m0 m t i n k : Nat} {es : List (List E)} (ht : hpF l t = .ids m) (hb : hpF l i = .box (es.flatten.map .e)) (hn : es.length = n) (hk : ∀ e ∈ es, e.length = k) :
    FinV [.ids m0] l (.bs i 0 n k) [.ids (m + 1)] (.e (.fs m es)) := by
  intro w G v hi hr
  have hfl : es.flatten.length = n * k := by rw [flatten_len hk, hn]
  obtain ⟨hnp, cs, T, hc, hcl, hcr⟩ := hi.box i _ hb
  obtain ⟨i1, x1⟩ := seal_out (m0 := m0) (n := n * k) (z := cs.size) hi ht (i := i) (by rw [hb]; rfl) ⟨cs, T, hc, Nat.le_refl _⟩
  refine ⟨_, ?_, i1, x1⟩
  cases hr with
  | bs hb' hcap hl hm =>
    rename_i cap ds b o
    rw [hb] at hb'
    cases hb'
    refine .e ?_
    rcases hl with h0 | ⟨rfl, rfl, hsz⟩
    · have : es = [] := List.length_eq_zero_iff.1 (by omega)
      subst this
      subst h0
      exact .fnils fun h => by cases h
    · refine .fs (k := k) (z := cs.size) (fun j => cs.getD j undef) (by simp [Gh.seal]) (by omega) hn hcap hm hk (fun j hj => ?_) (fun j d hd => ?_)
      · have hjc : j < cs.size := by rw [hcl, List.length_map, hfl]; exact hj
        rw [Nat.zero_add]
        exact ⟨.inr ⟨rfl, hj⟩, by simp [World.cell?, hc, hjc]⟩
      · have hj : j < cs.size := by rw [hcl, List.length_map]; exact (List.getElem?_eq_some_iff.1 hd).1
        have := (hcr j cs[j] (.e d) (by simp [hj]) (by rw [List.getElem?_map, hd]; rfl)).1
        have hg : cs.getD j undef = cs[j] := by simp [Array.getD, hj]
        rw [hg]
        exact seal_mono hi ht (rv_e this)
/-- A slice that was written in place is handed back, with a number. -/
theorem finv_vecFs {l : List O} {m0 m t i n k : Nat} {b : Bool} {ds : List D} {es : List (List E)} (ht : hpF l t = .ids m) (hb : hpF l i = .vec b k ds) (hn : es.length = n) (hds : ds.take (n * k) = es.flatten.map .e) (hk : ∀ e ∈ es, e.length = k) :
    FinV [.ids m0] l (.vec i n k) [.ids (m + 1)] (.e (.fs m es)) := by
  have hfl : es.flatten.length = n * k := by rw [flatten_len hk, hn]
  intro w G v hi hr
  cases b with
  | true =>
    obtain ⟨_, cs, T, hcs, _⟩ := (hi.vec i _ _ _ hb).2 rfl
    obtain ⟨i1, x1⟩ := seal_out (m0 := m0) (n := n * k) (z := cs.size) hi ht (i := i) (by rw [hb]; rfl) ⟨cs, T, hcs, Nat.le_refl _⟩
    refine ⟨_, ?_, i1, x1⟩
    obtain ⟨a, cap, rfl, _, hm, hnc, hvo⟩ := rv_vec hr
    obtain ⟨_, hlen, _, htt⟩ := hvo _ _ _ hb
    obtain ⟨rfl, cs2, T2, fr2, hcs2, hcap⟩ := htt rfl
    have hcap : cap * k ≤ cs.size := by rw [hcs] at hcs2; cases hcs2; exact hcap
    obtain ⟨uu, hu1, hu2⟩ := vec_cells hi hb
    refine .e (.fs (k := k) (z := cs.size) uu (by simp [Gh.seal]) hcap hn hnc hm hk (fun j hj => ?_) (fun j d hd => ?_))
    · rw [Nat.zero_add]
      exact ⟨.inr ⟨rfl, hj⟩, hu1 j (by omega)⟩
    · have hj : j < n * k := by rw [← hfl]; exact (List.getElem?_eq_some_iff.1 hd).1
      exact seal_mono hi ht (rv_e (hu2 j (.e d) (take_get hds hd hj)).1)
  | false =>
    obtain ⟨i1, x1⟩ := tok_out (m0 := m0) (m1 := m + 1) hi ht (by omega)
    refine ⟨G, ?_, i1, x1⟩
    obtain ⟨a, cap, rfl, _, hm, hnc, hvo⟩ := rv_vec hr
    obtain ⟨_, _, hff, _⟩ := hvo _ _ _ hb
    obtain ⟨rfl, rfl, _⟩ := hff rfl
    have : es = [] := List.length_eq_zero_iff.1 hn
    subst this
    exact .e (.fnils fun _ => rfl)
/-- What was handed in the tokens alone hands back something plain. -/
theorem finv_tok {l : List O} {m0 m t : Nat} {d' d : D} (ht : hpF l t = .ids m) (h : d'.pl = d) (hf : d.free = true) : FinV [.ids m0] l d' [.ids m] d := by
  intro w G v hi hr
  obtain ⟨i1, x1⟩ := tok_out (m0 := m0) (m1 := m) hi ht (Nat.le_refl _)
  have := hr.pl
  rw [h] at this
  exact ⟨G, this.free hf rfl rfl, i1, x1⟩
mutual
/-- Without its numbers. -/
def E.un : E → E
  | .v x => .v x
  | .sl es => .sl (unss es)
  | .iv t e => .iv t e.un
  | .ia t es => .ia t (uns es)
  | .fs _ es => .sl (unss es)
def uns : List E → List E
  | [] => []
  | e :: r => e.un :: uns r
def unss : List (List E) → List (List E)
  | [] => []
  | e :: r => uns e :: unss r
end
theorem uns_map : ∀ es : List E, uns es = es.map E.un
  | [] => rfl
  | e :: r => by rw [uns, uns_map r]; rfl
theorem unss_map : ∀ es : List (List E), unss es = es.map fun e => e.map E.un
  | [] => rfl
  | e :: r => by rw [unss, unss_map r, uns_map]; rfl
theorem unss_flat (es : List (List E)) : (unss es).flatten = es.flatten.map E.un := by
  rw [unss_map, List.map_flatten]
theorem RvE.un {w : World} {G : Gh} {v : Value} {e : E} (r : RvE w G v e) : RvE w G v e.un := by
  induction r with
  | v h => exact .v h
  | nils h => exact .nils h
  | @sl b off n cap k es u hn hc hm hk hp hr ih =>
    refine .sl (k := k) u (by rw [unss_map, List.length_map]; exact hn) hc hm (fun e he => ?_) hp fun j d hd => ?_
    · rw [unss_map] at he
      obtain ⟨e0, h0, rfl⟩ := List.mem_map.1 he
      rw [List.length_map]; exact hk _ h0
    · rw [unss_flat, List.getElem?_map] at hd
      obtain ⟨d0, h0, rfl⟩ := Option.map_eq_some_iff.1 hd
      exact ih j d0 h0
  | iv _ ih => exact .iv ih
  | @ia t cs ds hl _ ih =>
    refine .ia (by rw [uns_map, List.length_map]; exact hl) fun j c d hc hd => ?_
    rw [uns_map, List.getElem?_map] at hd
    obtain ⟨d0, h0, rfl⟩ := Option.map_eq_some_iff.1 hd
    exact ih j c d0 hc h0
  | @fs i b n cap k es z u hs hz hn hc hm hk hp hr ih =>
    refine .sl (k := k) u (by rw [unss_map, List.length_map]; exact hn) hc hm (fun e he => ?_) hp fun j d hd => ?_
    · rw [unss_map] at he
      obtain ⟨e0, h0, rfl⟩ := List.mem_map.1 he
      rw [List.length_map]; exact hk _ h0
    · rw [unss_flat, List.getElem?_map] at hd
      obtain ⟨d0, h0, rfl⟩ := Option.map_eq_some_iff.1 hd
      exact ih j d0 h0
  | fnils h => exact .nils h
theorem sub_un {e : E} : Sub (.e e) (.e e.un) := fun _ _ _ _ r => .e (rv_e r).un
theorem sub_un' {e e' : E} (h : e.un = e') : Sub (.e e) (.e e') := h ▸ sub_un
end Go.Proofs.Ytfplalbognalkaa.Ab
/- The code of functions, in the small language. -/
namespace Go.Proofs.Ytfplalbognalkaa.Ab
open Go
def c3 : F := ⟨93, [(.tmp 2)], (.seq (.reg [⟨(some 2), none, (.mov (.c (.bool false)))⟩]) (.seq (.seq (.reg [⟨(some 8), none, (.mov (.s 0))⟩, ⟨(some 9), none, (.lenl (.s 8))⟩, ⟨(some 10), none, (.bin .gtr (.s 9) (.c (.int 1048576)))⟩]) (.cond (.s 10) (.seq (.reg [⟨(some 2), none, (.mov (.c (.bool true)))⟩]) .ret) .skip)) (.seq (.reg [⟨(some 11), none, (.mov (.s 0))⟩, ⟨(some 12), none, (.call 10 [(.s 11)])⟩, ⟨(some 3), none, (.mov (.s 12))⟩]) (.seq (.reg [⟨(some 13), none, (.mov (.s 0))⟩, ⟨(some 14), none, (.call 10 [(.s 13)])⟩, ⟨(some 15), none, (.call 11 [(.s 14)])⟩, ⟨(some 4), none, (.mov (.s 15))⟩]) (.seq (.seq (.reg [⟨(some 16), none, (.mov (.s 4))⟩, ⟨(some 17), none, (.lenl (.s 16))⟩, ⟨(some 18), none, (.mov (.s 3))⟩, ⟨(some 19), none, (.lenl (.s 18))⟩, ⟨(some 20), none, (.bin .neq (.s 17) (.s 19))⟩]) (.cond (.s 20) (.seq (.reg [⟨(some 2), none, (.mov (.c (.bool false)))⟩]) .ret) .skip)) (.seq (.seq (.reg [⟨(some 5), none, (.mov (.c (.int 0)))⟩]) (.block 0 (.loop (.seq (.seq (.reg [⟨(some 21), none, (.mov (.s 5))⟩, ⟨(some 22), none, (.mov (.s 3))⟩, ⟨(some 23), none, (.lenl (.s 22))⟩, ⟨(some 24), none, (.bin .lss (.s 21) (.s 23))⟩]) (.cond (.s 24) .skip (.exit 0))) (.seq (.block 1 (.seq (.seq (.dreg [⟨⟨(some 27), none, (.mov (.s 4))⟩, [], [4]⟩, ⟨⟨(some 28), none, (.mov (.s 3))⟩, [0], [3]⟩, ⟨⟨(some 29), none, (.mov (.s 5))⟩, [0, 1], [5]⟩, ⟨⟨(some 30), none, (.iadr none 1 (.s 28) (.s 29))⟩, [0], [28, 29]⟩, ⟨⟨(some 31), none, (.load false 1 (.s 30))⟩, [0], [30]⟩, ⟨⟨(some 32), none, (.call 12 [(.s 27), (.s 31)])⟩, [], [27, 31]⟩, ⟨⟨(some 33), none, (.mov (.s 3))⟩, [0, 1, 2, 3, 4, 5], [3]⟩, ⟨⟨(some 34), none, (.mov (.s 3))⟩, [0, 1, 2, 3, 4, 5, 6], [3]⟩, ⟨⟨(some 35), none, (.mov (.s 5))⟩, [0, 1, 2, 3, 4, 5, 6, 7], [5]⟩, ⟨⟨(some 36), none, (.iadr none 1 (.s 34) (.s 35))⟩, [0, 1, 2, 3, 4, 5, 6], [34, 35]⟩, ⟨⟨(some 37), none, (.load false 1 (.s 36))⟩, [0, 1, 2, 3, 4, 5, 6], [36]⟩, ⟨⟨(some 38), none, (.call 12 [(.s 33), (.s 37)])⟩, [], [33, 37]⟩, ⟨⟨(some 39), none, (.bin .neq (.s 32) (.s 38))⟩, [], [32, 38]⟩]) (.cond (.s 39) (.seq (.reg [⟨(some 2), none, (.mov (.c (.bool false)))⟩]) .ret) .skip)) (.seq (.dreg [⟨⟨(some 40), none, (.mov (.s 5))⟩, [], [5]⟩, ⟨⟨(some 41), none, (.bin .gtr (.s 40) (.c (.int 0)))⟩, [], [40]⟩, ⟨⟨(some 42), none, (.mov (.s 41))⟩, [], [41]⟩, ⟨⟨(some 43), (some (42, true)), (.mov (.s 4))⟩, [], [4, 42]⟩, ⟨⟨(some 44), (some (42, true)), (.mov (.s 5))⟩, [3], [5, 42]⟩, ⟨⟨(some 45), (some (42, true)), (.bin .sub (.s 44) (.c (.int 1)))⟩, [3], [44, 42]⟩, ⟨⟨(some 46), (some (42, true)), (.iadr none 1 (.s 43) (.s 45))⟩, [], [43, 45, 42]⟩, ⟨⟨(some 47), (some (42, true)), (.load false 1 (.s 46))⟩, [], [46, 42]⟩, ⟨⟨(some 48), (some (42, true)), (.mov (.s 4))⟩, [3, 4, 5, 6, 7], [4, 42]⟩, ⟨⟨(some 49), (some (42, true)), (.mov (.s 5))⟩, [3, 4, 5, 6, 7, 8], [5, 42]⟩, ⟨⟨(some 50), (some (42, true)), (.iadr none 1 (.s 48) (.s 49))⟩, [3, 4, 5, 6, 7], [48, 49, 42]⟩, ⟨⟨(some 51), (some (42, true)), (.load false 1 (.s 50))⟩, [3, 4, 5, 6, 7], [50, 42]⟩, ⟨⟨(some 52), (some (42, true)), (.call 13 [(.s 47), (.s 51)])⟩, [], [47, 51, 42]⟩, ⟨⟨(some 53), (some (42, true)), (.bin .gtr (.s 52) (.c (.int 0)))⟩, [], [52, 42]⟩, ⟨⟨(some 54), (some (42, true)), (.mov (.s 53))⟩, [], [53, 42]⟩, ⟨⟨(some 55), (some (54, false)), (.mov (.s 4))⟩, [], [4, 54]⟩, ⟨⟨(some 56), (some (54, false)), (.mov (.s 5))⟩, [15], [5, 54]⟩, ⟨⟨(some 57), (some (54, false)), (.bin .sub (.s 56) (.c (.int 1)))⟩, [15], [56, 54]⟩, ⟨⟨(some 58), (some (54, false)), (.iadr none 1 (.s 55) (.s 57))⟩, [], [55, 57, 54]⟩, ⟨⟨(some 59), (some (54, false)), (.load false 1 (.s 58))⟩, [], [58, 54]⟩, ⟨⟨(some 60), (some (54, false)), (.mov (.s 4))⟩, [15, 16, 17, 18, 19], [4, 54]⟩, ⟨⟨(some 61), (some (54, false)), (.mov (.s 5))⟩, [15, 16, 17, 18, 19, 20], [5, 54]⟩, ⟨⟨(some 62), (some (54, false)), (.iadr none 1 (.s 60) (.s 61))⟩, [15, 16, 17, 18, 19], [60, 61, 54]⟩, ⟨⟨(some 63), (some (54, false)), (.load false 1 (.s 62))⟩, [15, 16, 17, 18, 19], [62, 54]⟩, ⟨⟨(some 64), (some (54, false)), (.call 14 [(.s 59), (.s 63)])⟩, [], [59, 63, 54]⟩, ⟨⟨(some 65), (some (54, false)), (.bin .gtr (.s 64) (.c (.int 0)))⟩, [], [64, 54]⟩, ⟨⟨(some 66), (some (42, true)), (.pick (.s 54) (.c (.bool true)) (.s 65))⟩, [], [54, 65, 42]⟩, ⟨⟨(some 67), none, (.pick (.s 42) (.s 66) (.c (.bool false)))⟩, [], [42, 66]⟩]) (.cond (.s 67) (.seq (.reg [⟨(some 2), none, (.mov (.c (.bool false)))⟩]) .ret) .skip)))) (.reg [⟨(some 25), none, (.mov (.s 5))⟩, ⟨(some 26), none, (.bin .add (.s 25) (.c (.int 1)))⟩, ⟨(some 5), none, (.mov (.s 26))⟩])))))) (.seq (.reg [⟨(some 68), none, (.lit 1 [(.sl [])] 0 [])⟩, ⟨(some 6), none, (.mov (.s 68))⟩]) (.seq (.seq (.reg [⟨(some 69), none, (.mov (.s 3))⟩, ⟨(some 70), none, (.lenl (.s 69))⟩, ⟨(some 71), none, (.bin .sub (.s 70) (.c (.int 1)))⟩, ⟨(some 7), none, (.mov (.s 71))⟩]) (.block 2 (.loop (.seq (.seq (.reg [⟨(some 72), none, (.mov (.s 7))⟩, ⟨(some 73), none, (.bin .geq (.s 72) (.c (.int 0)))⟩]) (.cond (.s 73) .skip (.exit 2))) (.seq (.block 3 (.reg [⟨(some 76), none, (.mov (.s 6))⟩, ⟨(some 77), none, (.mov (.s 3))⟩, ⟨(some 78), none, (.mov (.s 7))⟩, ⟨(some 79), none, (.iadr none 1 (.s 77) (.s 78))⟩, ⟨(some 80), none, (.load false 1 (.s 79))⟩, ⟨(some 81), none, (.lit 1 [(.sl [])] 1 [(0, (.s 80))])⟩, ⟨(some 82), none, (.app 1 (.s 76) (.s 81))⟩, ⟨(some 6), none, (.mov (.s 82))⟩])) (.reg [⟨(some 74), none, (.mov (.s 7))⟩, ⟨(some 75), none, (.bin .sub (.s 74) (.c (.int 1)))⟩, ⟨(some 7), none, (.mov (.s 75))⟩])))))) (.seq (.reg [⟨(some 83), none, (.mov (.s 6))⟩, ⟨(some 84), none, (.call 11 [(.s 83)])⟩, ⟨(some 85), none, (.mov (.s 4))⟩, ⟨(some 86), none, (.call 15 [(.s 84), (.s 85)])⟩, ⟨(some 87), none, (.mov (.s 86))⟩, ⟨(some 88), (some (87, true)), (.mov (.s 4))⟩, ⟨(some 89), (some (87, true)), (.call 11 [(.s 88)])⟩, ⟨(some 90), (some (87, true)), (.mov (.s 4))⟩, ⟨(some 91), (some (87, true)), (.call 15 [(.s 89), (.s 90)])⟩, ⟨(some 92), none, (.pick (.s 87) (.s 91) (.c (.bool false)))⟩, ⟨(some 2), none, (.mov (.s 92))⟩]) .ret)))))))))⟩
theorem p3 : prepF Try.prog 3 = some c3 := by kernel_rfl
def c10 : F := ⟨44, [(.tmp 2)], (.seq (.reg [⟨(some 2), none, (.mov (.c .zs))⟩]) (.seq (.reg [⟨(some 7), none, (.mov (.s 0))⟩, ⟨(some 8), none, (.call 47 [(.s 7)])⟩, ⟨(some 3), none, (.mov (.s 8))⟩]) (.seq (.reg [⟨(some 9), none, (.mov (.s 3))⟩, ⟨(some 10), none, (.call 48 [(.s 9)])⟩, ⟨(some 4), none, (.mov (.s 10))⟩]) (.seq (.reg [⟨(some 11), none, (.mov (.s 4))⟩, ⟨(some 12), none, (.bin .rem (.s 11) (.c (.int 5)))⟩, ⟨(some 13), none, (.mov (.s 3))⟩, ⟨(some 14), none, (.call 49 [(.s 13)])⟩, ⟨(some 15), none, (.bin .quo (.s 14) (.c (.int 4)))⟩, ⟨(some 16), none, (.bin .add (.s 12) (.s 15))⟩, ⟨(some 5), none, (.mov (.s 16))⟩]) (.seq (.seq (.reg [⟨(some 17), none, (.mov (.s 5))⟩, ⟨(some 18), none, (.bin .gtr (.s 17) (.c (.int 200)))⟩]) (.cond (.s 18) (.reg [⟨(some 5), none, (.mov (.c (.int 200)))⟩]) .skip)) (.seq (.reg [⟨(some 19), none, (.mov (.s 3))⟩, ⟨(some 20), none, (.mov (.s 5))⟩, ⟨(some 21), none, (.mov (.s 4))⟩, ⟨(some 22), none, (.bin .quo (.s 21) (.c (.int 5)))⟩, ⟨(some 23), none, (.bin .rem (.s 22) (.c (.int 3)))⟩, ⟨(some 24), none, (.bin .add (.c (.int 1)) (.s 23))⟩, ⟨(some 25), none, (.call 50 [(.s 19), (.s 20), (.s 24)])⟩, ⟨(some 6), none, (.mov (.s 25))⟩]) (.seq (.seq (.reg [⟨(some 26), none, (.mov (.s 4))⟩, ⟨(some 27), none, (.bin .rem (.s 26) (.c (.int 3)))⟩, ⟨(some 28), none, (.bin .eql (.s 27) (.c (.int 2)))⟩, ⟨(some 29), none, (.mov (.s 28))⟩, ⟨(some 30), (some (29, true)), (.mov (.s 5))⟩, ⟨(some 31), (some (29, true)), (.bin .gtr (.s 30) (.c (.int 0)))⟩, ⟨(some 32), none, (.pick (.s 29) (.s 31) (.c (.bool false)))⟩]) (.cond (.s 32) (.dreg [⟨⟨(some 33), none, (.mov (.s 6))⟩, [], [6]⟩, ⟨⟨(some 34), none, (.lit 2 [(.v (.bool false)), (.v (.int .i64 0))] 0 [])⟩, [0], []⟩, ⟨⟨(some 35), none, (.mov (.s 3))⟩, [0, 1], [3]⟩, ⟨⟨(some 36), none, (.call 51 [(.s 35), (.c (.int 1))])⟩, [0, 1], [35]⟩, ⟨⟨(some 37), none, (.mov (.s 6))⟩, [0, 1, 2, 3], [6]⟩, ⟨⟨(some 38), none, (.iadr none 1 (.s 37) (.c (.int 0)))⟩, [0, 1, 2, 3], [37]⟩, ⟨⟨(some 39), none, (.load false 1 (.s 38))⟩, [0, 1, 2, 3], [38]⟩, ⟨⟨(some 40), none, (.call 52 [(.s 39)])⟩, [0, 1], [39]⟩, ⟨⟨(some 41), none, (.lit 1 [(.sl [])] 3 [(0, (.s 34)), (1, (.s 36)), (2, (.s 40))])⟩, [0], [34, 36, 40]⟩, ⟨⟨(some 42), none, (.app 1 (.s 33) (.s 41))⟩, [], [33, 41]⟩, ⟨⟨(some 6), none, (.mov (.s 42))⟩, [], [42]⟩]) .skip)) (.seq (.reg [⟨(some 43), none, (.mov (.s 6))⟩, ⟨(some 2), none, (.mov (.s 43))⟩]) .ret))))))))⟩
theorem p10 : prepF Try.prog 10 = some c10 := by kernel_rfl
def c11 : F := ⟨24, [(.tmp 2)], (.seq (.reg [⟨(some 2), none, (.mov (.c .zs))⟩]) (.seq (.reg [⟨(some 6), none, (.mov (.s 0))⟩, ⟨(some 7), none, (.lenl (.s 6))⟩, ⟨(some 8), none, (.mks [(.e (.sl []))] (.s 7))⟩, ⟨(some 3), none, (.mov (.s 8))⟩]) (.seq (.seq (.reg [⟨(some 9), none, (.mov (.s 0))⟩, ⟨(some 10), none, (.lenl (.s 9))⟩, ⟨(some 11), none, (.mov (.c (.int 0)))⟩]) (.block 0 (.loop (.seq (.reg [⟨(some 12), none, (.bin .lss (.s 11) (.s 10))⟩]) (.seq (.cond (.s 12) .skip (.exit 0)) (.seq (.block 1 (.seq (.reg [⟨(some 13), none, (.mov (.s 11))⟩, ⟨(some 14), none, (.iadr none 1 (.s 9) (.s 11))⟩, ⟨(some 15), none, (.load false 1 (.s 14))⟩, ⟨(some 4), none, (.mov (.s 13))⟩, ⟨(some 5), none, (.mov (.s 15))⟩]) (.reg [⟨(some 16), none, (.mov (.s 3))⟩, ⟨(some 17), none, (.mov (.s 4))⟩, ⟨(some 18), none, (.mov (.s 5))⟩, ⟨(some 19), none, (.call 53 [(.s 18)])⟩, ⟨(some 20), none, (.iadr none 1 (.s 16) (.s 17))⟩, ⟨none, none, (.store false 1 (.s 20) (.s 19))⟩]))) (.reg [⟨(some 21), none, (.bin .add (.s 11) (.c (.int 1)))⟩, ⟨(some 11), none, (.mov (.s 21))⟩]))))))) (.seq (.reg [⟨(some 22), none, (.mov (.s 3))⟩, ⟨(some 23), none, (.call 54 [(.s 22), (.c (.fn (.func 13) [] []))])⟩, ⟨(some 2), none, (.mov (.s 23))⟩]) .ret))))⟩
theorem p11 : prepF Try.prog 11 = some c11 := by kernel_rfl
def c12 : F := ⟨23, [(.tmp 4)], (.seq (.reg [⟨(some 4), none, (.mov (.c (.int 0)))⟩]) (.seq (.reg [⟨(some 5), none, (.mov (.c (.int 0)))⟩]) (.seq (.seq (.reg [⟨(some 6), none, (.mov (.c (.int 0)))⟩]) (.block 0 (.loop (.seq (.seq (.reg [⟨(some 7), none, (.mov (.s 6))⟩, ⟨(some 8), none, (.mov (.s 0))⟩, ⟨(some 9), none, (.lenl (.s 8))⟩, ⟨(some 10), none, (.bin .lss (.s 7) (.s 9))⟩]) (.cond (.s 10) .skip (.exit 0))) (.seq (.block 1 (.seq (.reg [⟨(some 13), none, (.mov (.s 0))⟩, ⟨(some 14), none, (.mov (.s 6))⟩, ⟨(some 15), none, (.iadr none 1 (.s 13) (.s 14))⟩, ⟨(some 16), none, (.load false 1 (.s 15))⟩, ⟨(some 17), none, (.mov (.s 1))⟩, ⟨(some 18), none, (.call 14 [(.s 16), (.s 17)])⟩, ⟨(some 19), none, (.bin .eql (.s 18) (.c (.int 0)))⟩]) (.cond (.s 19) (.reg [⟨(some 20), none, (.mov (.s 5))⟩, ⟨(some 21), none, (.bin .add (.s 20) (.c (.int 1)))⟩, ⟨(some 5), none, (.mov (.s 21))⟩]) .skip))) (.reg [⟨(some 11), none, (.mov (.s 6))⟩, ⟨(some 12), none, (.bin .add (.s 11) (.c (.int 1)))⟩, ⟨(some 6), none, (.mov (.s 12))⟩])))))) (.seq (.reg [⟨(some 22), none, (.mov (.s 5))⟩, ⟨(some 4), none, (.mov (.s 22))⟩]) .ret))))⟩
theorem p12 : prepF Try.prog 12 = some c12 := by kernel_rfl
def c15 : F := ⟨54, [(.tmp 4)], (.seq (.reg [⟨(some 4), none, (.mov (.c (.bool false)))⟩]) (.seq (.seq (.reg [⟨(some 7), none, (.mov (.s 0))⟩, ⟨(some 8), none, (.lenl (.s 7))⟩, ⟨(some 9), none, (.mov (.s 1))⟩, ⟨(some 10), none, (.lenl (.s 9))⟩, ⟨(some 11), none, (.bin .neq (.s 8) (.s 10))⟩]) (.cond (.s 11) (.seq (.reg [⟨(some 4), none, (.mov (.c (.bool false)))⟩]) .ret) .skip)) (.seq (.seq (.reg [⟨(some 5), none, (.mov (.c (.int 0)))⟩]) (.block 0 (.loop (.seq (.seq (.reg [⟨(some 12), none, (.mov (.s 5))⟩, ⟨(some 13), none, (.mov (.s 0))⟩, ⟨(some 14), none, (.lenl (.s 13))⟩, ⟨(some 15), none, (.bin .lss (.s 12) (.s 14))⟩]) (.cond (.s 15) .skip (.exit 0))) (.seq (.block 1 (.seq (.seq (.dreg [⟨⟨(some 18), none, (.mov (.s 0))⟩, [], [0]⟩, ⟨⟨(some 19), none, (.mov (.s 5))⟩, [0], [5]⟩, ⟨⟨(some 20), none, (.iadr none 1 (.s 18) (.s 19))⟩, [], [18, 19]⟩, ⟨⟨(some 21), none, (.load false 1 (.s 20))⟩, [], [20]⟩, ⟨⟨(some 22), none, (.lenl (.s 21))⟩, [], [21]⟩, ⟨⟨(some 23), none, (.mov (.s 1))⟩, [0, 1, 2, 3, 4], [1]⟩, ⟨⟨(some 24), none, (.mov (.s 5))⟩, [0, 1, 2, 3, 4, 5], [5]⟩, ⟨⟨(some 25), none, (.iadr none 1 (.s 23) (.s 24))⟩, [0, 1, 2, 3, 4], [23, 24]⟩, ⟨⟨(some 26), none, (.load false 1 (.s 25))⟩, [0, 1, 2, 3, 4], [25]⟩, ⟨⟨(some 27), none, (.lenl (.s 26))⟩, [0, 1, 2, 3, 4], [26]⟩, ⟨⟨(some 28), none, (.bin .neq (.s 22) (.s 27))⟩, [], [22, 27]⟩]) (.cond (.s 28) (.seq (.reg [⟨(some 4), none, (.mov (.c (.bool false)))⟩]) .ret) .skip)) (.seq (.reg [⟨(some 6), none, (.mov (.c (.int 0)))⟩]) (.block 2 (.loop (.seq (.seq (.reg [⟨(some 29), none, (.mov (.s 6))⟩, ⟨(some 30), none, (.mov (.s 0))⟩, ⟨(some 31), none, (.mov (.s 5))⟩, ⟨(some 32), none, (.iadr none 1 (.s 30) (.s 31))⟩, ⟨(some 33), none, (.load false 1 (.s 32))⟩, ⟨(some 34), none, (.lenl (.s 33))⟩, ⟨(some 35), none, (.bin .lss (.s 29) (.s 34))⟩]) (.cond (.s 35) .skip (.exit 2))) (.seq (.block 3 (.seq (.dreg [⟨⟨(some 38), none, (.mov (.s 0))⟩, [], [0]⟩, ⟨⟨(some 39), none, (.mov (.s 5))⟩, [0], [5]⟩, ⟨⟨(some 40), none, (.iadr none 1 (.s 38) (.s 39))⟩, [], [38, 39]⟩, ⟨⟨(some 41), none, (.load false 1 (.s 40))⟩, [], [40]⟩, ⟨⟨(some 42), none, (.mov (.s 6))⟩, [0, 1, 2, 3], [6]⟩, ⟨⟨(some 43), none, (.iadr none 2 (.s 41) (.s 42))⟩, [], [41, 42]⟩, ⟨⟨(some 44), none, (.load true 2 (.s 43))⟩, [], [43]⟩, ⟨⟨(some 45), none, (.mov (.s 1))⟩, [0, 1, 2, 3, 4, 5, 6], [1]⟩, ⟨⟨(some 46), none, (.mov (.s 5))⟩, [0, 1, 2, 3, 4, 5, 6, 7], [5]⟩, ⟨⟨(some 47), none, (.iadr none 1 (.s 45) (.s 46))⟩, [0, 1, 2, 3, 4, 5, 6], [45, 46]⟩, ⟨⟨(some 48), none, (.load false 1 (.s 47))⟩, [0, 1, 2, 3, 4, 5, 6], [47]⟩, ⟨⟨(some 49), none, (.mov (.s 6))⟩, [0, 1, 2, 3, 4, 5, 6, 7, 8, 9, 10], [6]⟩, ⟨⟨(some 50), none, (.iadr none 2 (.s 48) (.s 49))⟩, [0, 1, 2, 3, 4, 5, 6], [48, 49]⟩, ⟨⟨(some 51), none, (.load true 2 (.s 50))⟩, [0, 1, 2, 3, 4, 5, 6], [50]⟩, ⟨⟨(some 52), none, (.call 56 [(.s 44), (.s 51)])⟩, [], [44, 51]⟩, ⟨⟨(some 53), none, (.un .not (.s 52))⟩, [], [52]⟩]) (.cond (.s 53) (.seq (.reg [⟨(some 4), none, (.mov (.c (.bool false)))⟩]) .ret) .skip))) (.reg [⟨(some 36), none, (.mov (.s 6))⟩, ⟨(some 37), none, (.bin .add (.s 36) (.c (.int 1)))⟩, ⟨(some 6), none, (.mov (.s 37))⟩])))))))) (.reg [⟨(some 16), none, (.mov (.s 5))⟩, ⟨(some 17), none, (.bin .add (.s 16) (.c (.int 1)))⟩, ⟨(some 5), none, (.mov (.s 17))⟩])))))) (.seq (.reg [⟨(some 4), none, (.mov (.c (.bool true)))⟩]) .ret))))⟩
theorem p15 : prepF Try.prog 15 = some c15 := by kernel_rfl
def c17 : F := ⟨74, [(.tmp 2)], (.seq (.reg [⟨(some 2), none, (.mov (.c .zs))⟩]) (.seq (.seq (.reg [⟨(some 7), none, (.mov (.s 0))⟩, ⟨(some 8), none, (.lenl (.s 7))⟩, ⟨(some 9), none, (.bin .eql (.s 8) (.c (.int 0)))⟩]) (.cond (.s 9) (.seq (.reg [⟨(some 10), none, (.lit 1 [(.sl [])] 0 [])⟩, ⟨(some 2), none, (.mov (.s 10))⟩]) .ret) .skip)) (.seq (.seq (.reg [⟨(some 11), none, (.mov (.s 0))⟩, ⟨(some 12), none, (.lenl (.s 11))⟩, ⟨(some 13), none, (.bin .eql (.s 12) (.c (.int 1)))⟩]) (.cond (.s 13) (.seq (.reg [⟨(some 14), none, (.mov (.s 0))⟩, ⟨(some 15), none, (.iadr none 1 (.s 14) (.c (.int 0)))⟩, ⟨(some 16), none, (.load false 1 (.s 15))⟩, ⟨(some 17), none, (.call 52 [(.s 16)])⟩, ⟨(some 18), none, (.lit 1 [(.sl [])] 1 [(0, (.s 17))])⟩, ⟨(some 2), none, (.mov (.s 18))⟩]) .ret) .skip)) (.seq (.reg [⟨(some 19), none, (.mov (.s 0))⟩, ⟨(some 20), none, (.lenl (.s 19))⟩, ⟨(some 21), none, (.bin .quo (.s 20) (.c (.int 2)))⟩, ⟨(some 3), none, (.mov (.s 21))⟩]) (.seq (.reg [⟨(some 22), none, (.mov (.s 0))⟩, ⟨(some 23), none, (.mov (.s 3))⟩, ⟨(some 24), none, (.slice 1 (.s 22) none (some (.s 23)))⟩, ⟨(some 25), none, (.call 17 [(.s 24)])⟩, ⟨(some 4), none, (.mov (.s 25))⟩]) (.seq (.reg [⟨(some 26), none, (.mov (.s 0))⟩, ⟨(some 27), none, (.mov (.s 3))⟩, ⟨(some 28), none, (.slice 1 (.s 26) (some (.s 27)) none)⟩, ⟨(some 29), none, (.call 17 [(.s 28)])⟩, ⟨(some 5), none, (.mov (.s 29))⟩]) (.seq (.reg [⟨(some 30), none, (.lit 1 [(.sl [])] 0 [])⟩, ⟨(some 6), none, (.mov (.s 30))⟩]) (.seq (.block 0 (.loop (.seq (.seq (.reg [⟨(some 31), none, (.mov (.s 4))⟩, ⟨(some 32), none, (.lenl (.s 31))⟩, ⟨(some 33), none, (.bin .gtr (.s 32) (.c (.int 0)))⟩, ⟨(some 34), none, (.mov (.s 33))⟩, ⟨(some 35), (some (34, false)), (.mov (.s 5))⟩, ⟨(some 36), (some (34, false)), (.lenl (.s 35))⟩, ⟨(some 37), (some (34, false)), (.bin .gtr (.s 36) (.c (.int 0)))⟩, ⟨(some 38), none, (.pick (.s 34) (.c (.bool true)) (.s 37))⟩]) (.cond (.s 38) .skip (.exit 0))) (.block 1 (.seq (.dreg [⟨⟨(some 39), none, (.mov (.s 5))⟩, [], [5]⟩, ⟨⟨(some 40), none, (.lenl (.s 39))⟩, [], [39]⟩, ⟨⟨(some 41), none, (.bin .eql (.s 40) (.c (.int 0)))⟩, [], [40]⟩, ⟨⟨(some 42), none, (.mov (.s 41))⟩, [], [41]⟩, ⟨⟨(some 43), (some (42, false)), (.mov (.s 4))⟩, [], [4, 42]⟩, ⟨⟨(some 44), (some (42, false)), (.lenl (.s 43))⟩, [], [43, 42]⟩, ⟨⟨(some 45), (some (42, false)), (.bin .gtr (.s 44) (.c (.int 0)))⟩, [], [44, 42]⟩, ⟨⟨(some 46), (some (42, false)), (.mov (.s 45))⟩, [], [45, 42]⟩, ⟨⟨(some 47), (some (46, true)), (.mov (.s 4))⟩, [], [4, 46]⟩, ⟨⟨(some 48), (some (46, true)), (.iadr none 1 (.s 47) (.c (.int 0)))⟩, [], [47, 46]⟩, ⟨⟨(some 49), (some (46, true)), (.load false 1 (.s 48))⟩, [], [48, 46]⟩, ⟨⟨(some 50), (some (46, true)), (.mov (.s 5))⟩, [8, 9, 10], [5, 46]⟩, ⟨⟨(some 51), (some (46, true)), (.iadr none 1 (.s 50) (.c (.int 0)))⟩, [8, 9, 10], [50, 46]⟩, ⟨⟨(some 52), (some (46, true)), (.load false 1 (.s 51))⟩, [8, 9, 10], [51, 46]⟩, ⟨⟨(some 53), (some (46, true)), (.call 14 [(.s 49), (.s 52)])⟩, [], [49, 52, 46]⟩, ⟨⟨(some 54), (some (46, true)), (.bin .leq (.s 53) (.c (.int 0)))⟩, [], [53, 46]⟩, ⟨⟨(some 55), (some (42, false)), (.pick (.s 46) (.s 54) (.c (.bool false)))⟩, [], [46, 54, 42]⟩, ⟨⟨(some 56), none, (.pick (.s 42) (.c (.bool true)) (.s 55))⟩, [], [42, 55]⟩]) (.cond (.s 56) (.seq (.reg [⟨(some 57), none, (.mov (.s 6))⟩, ⟨(some 58), none, (.mov (.s 4))⟩, ⟨(some 59), none, (.iadr none 1 (.s 58) (.c (.int 0)))⟩, ⟨(some 60), none, (.load false 1 (.s 59))⟩, ⟨(some 61), none, (.lit 1 [(.sl [])] 1 [(0, (.s 60))])⟩, ⟨(some 62), none, (.app 1 (.s 57) (.s 61))⟩, ⟨(some 6), none, (.mov (.s 62))⟩]) (.reg [⟨(some 63), none, (.mov (.s 4))⟩, ⟨(some 64), none, (.slice 1 (.s 63) (some (.c (.int 1))) none)⟩, ⟨(some 4), none, (.mov (.s 64))⟩])) (.seq (.reg [⟨(some 65), none, (.mov (.s 6))⟩, ⟨(some 66), none, (.mov (.s 5))⟩, ⟨(some 67), none, (.iadr none 1 (.s 66) (.c (.int 0)))⟩, ⟨(some 68), none, (.load false 1 (.s 67))⟩, ⟨(some 69), none, (.lit 1 [(.sl [])] 1 [(0, (.s 68))])⟩, ⟨(some 70), none, (.app 1 (.s 65) (.s 69))⟩, ⟨(some 6), none, (.mov (.s 70))⟩]) (.reg [⟨(some 71), none, (.mov (.s 5))⟩, ⟨(some 72), none, (.slice 1 (.s 71) (some (.c (.int 1))) none)⟩, ⟨(some 5), none, (.mov (.s 72))⟩])))))))) (.seq (.reg [⟨(some 73), none, (.mov (.s 6))⟩, ⟨(some 2), none, (.mov (.s 73))⟩]) .ret)))))))))⟩
theorem p17 : prepF Try.prog 17 = some c17 := by kernel_rfl
def c20 : F := ⟨19, [(.tmp 4)], (.seq (.reg [⟨(some 4), none, (.mov (.c (.int 0)))⟩]) (.seq (.seq (.reg [⟨(some 5), none, (.mov (.c (.int 0)))⟩]) (.block 0 (.loop (.seq (.seq (.reg [⟨(some 6), none, (.mov (.s 5))⟩, ⟨(some 7), none, (.mov (.s 0))⟩, ⟨(some 8), none, (.lenl (.s 7))⟩, ⟨(some 9), none, (.bin .lss (.s 6) (.s 8))⟩]) (.cond (.s 9) .skip (.exit 0))) (.seq (.block 1 (.reg [⟨(some 12), none, (.mov (.s 0))⟩, ⟨(some 13), none, (.mov (.s 5))⟩, ⟨(some 14), none, (.iadr none 1 (.s 12) (.s 13))⟩, ⟨(some 15), none, (.load false 1 (.s 14))⟩, ⟨(some 16), none, (.mov (.s 1))⟩, ⟨(some 17), none, (.call 60 [(.s 15), (.s 16)])⟩, ⟨(some 1), none, (.mov (.s 17))⟩])) (.reg [⟨(some 10), none, (.mov (.s 5))⟩, ⟨(some 11), none, (.bin .add (.s 10) (.c (.int 1)))⟩, ⟨(some 5), none, (.mov (.s 11))⟩])))))) (.seq (.reg [⟨(some 18), none, (.mov (.s 1))⟩, ⟨(some 4), none, (.mov (.s 18))⟩]) .ret)))⟩
theorem p20 : prepF Try.prog 20 = some c20 := by kernel_rfl
def c21 : F := ⟨21, [(.tmp 4)], (.seq (.reg [⟨(some 4), none, (.mov (.c (.int 0)))⟩]) (.seq (.seq (.reg [⟨(some 5), none, (.mov (.c (.int 0)))⟩]) (.block 0 (.loop (.seq (.seq (.reg [⟨(some 6), none, (.mov (.s 5))⟩, ⟨(some 7), none, (.mov (.s 0))⟩, ⟨(some 8), none, (.lenl (.s 7))⟩, ⟨(some 9), none, (.bin .lss (.s 6) (.s 8))⟩]) (.cond (.s 9) .skip (.exit 0))) (.seq (.block 1 (.seq (.reg [⟨(some 12), none, (.mov (.s 0))⟩, ⟨(some 13), none, (.mov (.s 5))⟩, ⟨(some 14), none, (.iadr none 1 (.s 12) (.s 13))⟩, ⟨(some 15), none, (.load false 1 (.s 14))⟩, ⟨(some 16), none, (.mov (.s 1))⟩, ⟨(some 17), none, (.call 61 [(.s 15), (.s 16)])⟩, ⟨(some 1), none, (.mov (.s 17))⟩]) (.seq (.reg [⟨(some 18), none, (.mov (.s 1))⟩, ⟨(some 19), none, (.bin .lss (.s 18) (.c (.int 0)))⟩]) (.cond (.s 19) (.seq (.reg [⟨(some 4), none, (.mov (.c (.int (-1))))⟩]) .ret) .skip)))) (.reg [⟨(some 10), none, (.mov (.s 5))⟩, ⟨(some 11), none, (.bin .add (.s 10) (.c (.int 1)))⟩, ⟨(some 5), none, (.mov (.s 11))⟩])))))) (.seq (.reg [⟨(some 20), none, (.mov (.s 1))⟩, ⟨(some 4), none, (.mov (.s 20))⟩]) .ret)))⟩
theorem p21 : prepF Try.prog 21 = some c21 := by kernel_rfl
def c47 : F := ⟨11, [(.tmp 2)], (.seq (.reg [⟨(some 2), none, (.mov (.c (.e (.v (.pointer none)))))⟩]) (.seq (.seq (.reg [⟨(some 3), none, (.mov (.s 0))⟩, ⟨(some 4), none, (.lenl (.s 3))⟩, ⟨(some 5), none, (.bin .gtr (.s 4) (.c (.int 1500)))⟩]) (.cond (.s 5) (.reg [⟨(some 6), none, (.mov (.s 0))⟩, ⟨(some 7), none, (.slice 1 (.s 6) none (some (.c (.int 1500))))⟩, ⟨(some 0), none, (.mov (.s 7))⟩]) .skip)) (.seq (.reg [⟨(some 8), none, (.mov (.s 0))⟩, ⟨(some 9), none, (.build [(.e (.sl [])), (.int 0)] [(0, (1, (.s 8))), (1, (1, (.c (.int 0))))])⟩, ⟨(some 10), none, (.box (.s 9))⟩, ⟨(some 2), none, (.mov (.s 10))⟩]) .ret)))⟩
theorem p47 : prepF Try.prog 47 = some c47 := by kernel_rfl
def c48 : F := ⟨34, [(.tmp 2)], (.seq (.reg [⟨(some 2), none, (.mov (.c (.int 0)))⟩]) (.seq (.seq (.dreg [⟨⟨(some 4), none, (.mov (.s 0))⟩, [], [0]⟩, ⟨⟨(some 5), none, (.nilc (.s 4))⟩, [], [4]⟩, ⟨⟨(some 6), none, (.fadr 1 (.s 5))⟩, [], [5]⟩, ⟨⟨(some 7), none, (.load false 1 (.s 6))⟩, [], [6]⟩, ⟨⟨(some 8), none, (.mov (.s 0))⟩, [0, 1, 2, 3], [0]⟩, ⟨⟨(some 9), none, (.nilc (.s 8))⟩, [0, 1, 2, 3], [8]⟩, ⟨⟨(some 10), none, (.fadr 0 (.s 9))⟩, [0, 1, 2, 3], [9]⟩, ⟨⟨(some 11), none, (.load false 1 (.s 10))⟩, [0, 1, 2, 3], [10]⟩, ⟨⟨(some 12), none, (.lenl (.s 11))⟩, [0, 1, 2, 3], [11]⟩, ⟨⟨(some 13), none, (.bin .lss (.s 7) (.s 12))⟩, [], [7, 12]⟩]) (.cond (.s 13) (.seq (.dreg [⟨⟨(some 14), none, (.mov (.s 0))⟩, [], [0]⟩, ⟨⟨(some 15), none, (.nilc (.s 14))⟩, [], [14]⟩, ⟨⟨(some 16), none, (.fadr 0 (.s 15))⟩, [], [15]⟩, ⟨⟨(some 17), none, (.load false 1 (.s 16))⟩, [], [16]⟩, ⟨⟨(some 18), none, (.mov (.s 0))⟩, [0, 1, 2, 3], [0]⟩, ⟨⟨(some 19), none, (.nilc (.s 18))⟩, [0, 1, 2, 3], [18]⟩, ⟨⟨(some 20), none, (.fadr 1 (.s 19))⟩, [0, 1, 2, 3], [19]⟩, ⟨⟨(some 21), none, (.load false 1 (.s 20))⟩, [0, 1, 2, 3], [20]⟩, ⟨⟨(some 22), none, (.iadr none 1 (.s 17) (.s 21))⟩, [], [17, 21]⟩, ⟨⟨(some 23), none, (.load false 1 (.s 22))⟩, [], [22]⟩, ⟨⟨(some 24), none, (.convi .i64 (.s 23))⟩, [], [23]⟩, ⟨⟨(some 3), none, (.mov (.s 24))⟩, [], [24]⟩]) (.seq (.reg [⟨(some 25), none, (.mov (.s 0))⟩, ⟨(some 26), none, (.mov (.s 0))⟩, ⟨(some 27), none, (.nilc (.s 26))⟩, ⟨(some 28), none, (.fadr 1 (.s 27))⟩, ⟨(some 29), none, (.load false 1 (.s 28))⟩, ⟨(some 30), none, (.bin .add (.s 29) (.c (.int 1)))⟩, ⟨(some 31), none, (.nilc (.s 25))⟩, ⟨(some 32), none, (.fadr 1 (.s 31))⟩, ⟨none, none, (.store false 1 (.s 32) (.s 30))⟩]) (.seq (.reg [⟨(some 33), none, (.mov (.s 3))⟩, ⟨(some 2), none, (.mov (.s 33))⟩]) .ret))) .skip)) (.seq (.reg [⟨(some 2), none, (.mov (.c (.int 0)))⟩]) .ret)))⟩
theorem p48 : prepF Try.prog 48 = some c48 := by kernel_rfl
def c49 : F := ⟨13, [(.tmp 2)], (.seq (.reg [⟨(some 2), none, (.mov (.c (.int 0)))⟩]) (.seq (.dreg [⟨⟨(some 3), none, (.mov (.s 0))⟩, [], [0]⟩, ⟨⟨(some 4), none, (.nilc (.s 3))⟩, [], [3]⟩, ⟨⟨(some 5), none, (.fadr 0 (.s 4))⟩, [], [4]⟩, ⟨⟨(some 6), none, (.load false 1 (.s 5))⟩, [], [5]⟩, ⟨⟨(some 7), none, (.lenl (.s 6))⟩, [], [6]⟩, ⟨⟨(some 8), none, (.mov (.s 0))⟩, [0, 1, 2, 3, 4], [0]⟩, ⟨⟨(some 9), none, (.nilc (.s 8))⟩, [0, 1, 2, 3, 4], [8]⟩, ⟨⟨(some 10), none, (.fadr 1 (.s 9))⟩, [0, 1, 2, 3, 4], [9]⟩, ⟨⟨(some 11), none, (.load false 1 (.s 10))⟩, [0, 1, 2, 3, 4], [10]⟩, ⟨⟨(some 12), none, (.bin .sub (.s 7) (.s 11))⟩, [], [7, 11]⟩, ⟨⟨(some 2), none, (.mov (.s 12))⟩, [], [12]⟩]) .ret))⟩
theorem p49 : prepF Try.prog 49 = some c49 := by kernel_rfl
def c50 : F := ⟨45, [(.tmp 6)], (.seq (.reg [⟨(some 6), none, (.mov (.c .zs))⟩]) (.seq (.reg [⟨(some 10), none, (.lit 1 [(.sl [])] 0 [])⟩, ⟨(some 7), none, (.mov (.s 10))⟩]) (.seq (.seq (.reg [⟨(some 8), none, (.mov (.c (.int 0)))⟩]) (.block 0 (.loop (.seq (.seq (.reg [⟨(some 11), none, (.mov (.s 8))⟩, ⟨(some 12), none, (.mov (.s 1))⟩, ⟨(some 13), none, (.bin .lss (.s 11) (.s 12))⟩]) (.cond (.s 13) .skip (.exit 0))) (.seq (.block 1 (.seq (.reg [⟨(some 16), none, (.mov (.s 0))⟩, ⟨(some 17), none, (.call 48 [(.s 16)])⟩, ⟨(some 9), none, (.mov (.s 17))⟩]) (.seq (.reg [⟨(some 18), none, (.mov (.s 9))⟩, ⟨(some 19), none, (.bin .rem (.s 18) (.c (.int 4)))⟩, ⟨(some 20), none, (.bin .eql (.s 19) (.c (.int 3)))⟩, ⟨(some 21), none, (.mov (.s 20))⟩, ⟨(some 22), (some (21, true)), (.mov (.s 7))⟩, ⟨(some 23), (some (21, true)), (.lenl (.s 22))⟩, ⟨(some 24), (some (21, true)), (.bin .gtr (.s 23) (.c (.int 0)))⟩, ⟨(some 25), none, (.pick (.s 21) (.s 24) (.c (.bool false)))⟩]) (.cond (.s 25) (.reg [⟨(some 26), none, (.mov (.s 7))⟩, ⟨(some 27), none, (.mov (.s 7))⟩, ⟨(some 28), none, (.mov (.s 9))⟩, ⟨(some 29), none, (.bin .quo (.s 28) (.c (.int 4)))⟩, ⟨(some 30), none, (.mov (.s 7))⟩, ⟨(some 31), none, (.lenl (.s 30))⟩, ⟨(some 32), none, (.bin .rem (.s 29) (.s 31))⟩, ⟨(some 33), none, (.iadr none 1 (.s 27) (.s 32))⟩, ⟨(some 34), none, (.load false 1 (.s 33))⟩, ⟨(some 35), none, (.call 52 [(.s 34)])⟩, ⟨(some 36), none, (.lit 1 [(.sl [])] 1 [(0, (.s 35))])⟩, ⟨(some 37), none, (.app 1 (.s 26) (.s 36))⟩, ⟨(some 7), none, (.mov (.s 37))⟩]) (.reg [⟨(some 38), none, (.mov (.s 7))⟩, ⟨(some 39), none, (.mov (.s 0))⟩, ⟨(some 40), none, (.mov (.s 2))⟩, ⟨(some 41), none, (.call 51 [(.s 39), (.s 40)])⟩, ⟨(some 42), none, (.lit 1 [(.sl [])] 1 [(0, (.s 41))])⟩, ⟨(some 43), none, (.app 1 (.s 38) (.s 42))⟩, ⟨(some 7), none, (.mov (.s 43))⟩]))))) (.reg [⟨(some 14), none, (.mov (.s 8))⟩, ⟨(some 15), none, (.bin .add (.s 14) (.c (.int 1)))⟩, ⟨(some 8), none, (.mov (.s 15))⟩])))))) (.seq (.reg [⟨(some 44), none, (.mov (.s 7))⟩, ⟨(some 6), none, (.mov (.s 44))⟩]) .ret))))⟩
theorem p50 : prepF Try.prog 50 = some c50 := by kernel_rfl
def c51 : F := ⟨19, [(.tmp 4)], (.seq (.reg [⟨(some 4), none, (.mov (.c .zs))⟩]) (.seq (.reg [⟨(some 7), none, (.lit 2 [(.v (.bool false)), (.v (.int .i64 0))] 0 [])⟩, ⟨(some 5), none, (.mov (.s 7))⟩]) (.seq (.seq (.reg [⟨(some 6), none, (.mov (.c (.int 0)))⟩]) (.block 0 (.loop (.seq (.seq (.reg [⟨(some 8), none, (.mov (.s 6))⟩, ⟨(some 9), none, (.mov (.s 1))⟩, ⟨(some 10), none, (.bin .lss (.s 8) (.s 9))⟩]) (.cond (.s 10) .skip (.exit 0))) (.seq (.block 1 (.reg [⟨(some 13), none, (.mov (.s 5))⟩, ⟨(some 14), none, (.mov (.s 0))⟩, ⟨(some 15), none, (.call 105 [(.s 14)])⟩, ⟨(some 16), none, (.lit 2 [(.v (.bool false)), (.v (.int .i64 0))] 1 [(0, (.s 15))])⟩, ⟨(some 17), none, (.app 2 (.s 13) (.s 16))⟩, ⟨(some 5), none, (.mov (.s 17))⟩])) (.reg [⟨(some 11), none, (.mov (.s 6))⟩, ⟨(some 12), none, (.bin .add (.s 11) (.c (.int 1)))⟩, ⟨(some 6), none, (.mov (.s 12))⟩])))))) (.seq (.reg [⟨(some 18), none, (.mov (.s 5))⟩, ⟨(some 4), none, (.mov (.s 18))⟩]) .ret))))⟩
theorem p51 : prepF Try.prog 51 = some c51 := by kernel_rfl
def c52 : F := ⟨21, [(.tmp 2)], (.seq (.reg [⟨(some 2), none, (.mov (.c .zs))⟩]) (.seq (.reg [⟨(some 5), none, (.lit 2 [(.v (.bool false)), (.v (.int .i64 0))] 0 [])⟩, ⟨(some 3), none, (.mov (.s 5))⟩]) (.seq (.seq (.reg [⟨(some 4), none, (.mov (.c (.int 0)))⟩]) (.block 0 (.loop (.seq (.seq (.reg [⟨(some 6), none, (.mov (.s 4))⟩, ⟨(some 7), none, (.mov (.s 0))⟩, ⟨(some 8), none, (.lenl (.s 7))⟩, ⟨(some 9), none, (.bin .lss (.s 6) (.s 8))⟩]) (.cond (.s 9) .skip (.exit 0))) (.seq (.block 1 (.reg [⟨(some 12), none, (.mov (.s 3))⟩, ⟨(some 13), none, (.mov (.s 0))⟩, ⟨(some 14), none, (.mov (.s 4))⟩, ⟨(some 15), none, (.iadr none 2 (.s 13) (.s 14))⟩, ⟨(some 16), none, (.load true 2 (.s 15))⟩, ⟨(some 17), none, (.call 106 [(.s 16)])⟩, ⟨(some 18), none, (.lit 2 [(.v (.bool false)), (.v (.int .i64 0))] 1 [(0, (.s 17))])⟩, ⟨(some 19), none, (.app 2 (.s 12) (.s 18))⟩, ⟨(some 3), none, (.mov (.s 19))⟩])) (.reg [⟨(some 10), none, (.mov (.s 4))⟩, ⟨(some 11), none, (.bin .add (.s 10) (.c (.int 1)))⟩, ⟨(some 4), none, (.mov (.s 11))⟩])))))) (.seq (.reg [⟨(some 20), none, (.mov (.s 3))⟩, ⟨(some 2), none, (.mov (.s 20))⟩]) .ret))))⟩
theorem p52 : prepF Try.prog 52 = some c52 := by kernel_rfl
def c53 : F := ⟨23, [(.tmp 2)], (.seq (.reg [⟨(some 2), none, (.mov (.c .zs))⟩]) (.seq (.reg [⟨(some 6), none, (.mov (.s 0))⟩, ⟨(some 7), none, (.lenl (.s 6))⟩, ⟨(some 8), none, (.mks [(.bool false), (.int 0)] (.s 7))⟩, ⟨(some 3), none, (.mov (.s 8))⟩]) (.seq (.seq (.reg [⟨(some 9), none, (.mov (.s 0))⟩, ⟨(some 10), none, (.lenl (.s 9))⟩, ⟨(some 11), none, (.mov (.c (.int 0)))⟩]) (.block 0 (.loop (.seq (.reg [⟨(some 12), none, (.bin .lss (.s 11) (.s 10))⟩]) (.seq (.cond (.s 12) .skip (.exit 0)) (.seq (.block 1 (.seq (.reg [⟨(some 13), none, (.mov (.s 11))⟩, ⟨(some 14), none, (.iadr none 2 (.s 9) (.s 11))⟩, ⟨(some 15), none, (.load true 2 (.s 14))⟩, ⟨(some 5), none, (.alloc [(.bool false), (.int 0)])⟩, ⟨(some 4), none, (.mov (.s 13))⟩, ⟨none, none, (.store true 2 (.s 5) (.s 15))⟩]) (.reg [⟨(some 16), none, (.mov (.s 3))⟩, ⟨(some 17), none, (.mov (.s 4))⟩, ⟨(some 18), none, (.load true 2 (.s 5))⟩, ⟨(some 19), none, (.call 107 [(.s 18)])⟩, ⟨(some 20), none, (.iadr none 2 (.s 16) (.s 17))⟩, ⟨none, none, (.store true 2 (.s 20) (.s 19))⟩]))) (.reg [⟨(some 21), none, (.bin .add (.s 11) (.c (.int 1)))⟩, ⟨(some 11), none, (.mov (.s 21))⟩]))))))) (.seq (.reg [⟨(some 22), none, (.mov (.s 3))⟩, ⟨(some 2), none, (.mov (.s 22))⟩]) .ret))))⟩
theorem p53 : prepF Try.prog 53 = some c53 := by kernel_rfl
def c54 : F := ⟨12, [(.tmp 4)], (.seq (.reg [⟨(some 4), none, (.mov (.c .zs))⟩]) (.seq (.reg [⟨(some 6), none, (.mov (.s 0))⟩, ⟨(some 7), none, (.call 108 [(.s 6)])⟩, ⟨(some 5), none, (.mov (.s 7))⟩]) (.seq (.reg [⟨(some 8), none, (.mov (.s 5))⟩, ⟨(some 9), none, (.mov (.s 1))⟩, ⟨(some 10), none, (.call 109 [(.s 8), (.s 9)])⟩]) (.seq (.reg [⟨(some 11), none, (.mov (.s 5))⟩, ⟨(some 4), none, (.mov (.s 11))⟩]) .ret))))⟩
theorem p54 : prepF Try.prog 54 = some c54 := by kernel_rfl
def c60 : F := ⟨29, [(.tmp 4)], (.seq (.reg [⟨(some 4), none, (.mov (.c (.int 0)))⟩]) (.seq (.seq (.reg [⟨(some 5), none, (.mov (.c (.int 0)))⟩]) (.block 0 (.loop (.seq (.seq (.reg [⟨(some 6), none, (.mov (.s 5))⟩, ⟨(some 7), none, (.mov (.s 0))⟩, ⟨(some 8), none, (.lenl (.s 7))⟩, ⟨(some 9), none, (.bin .lss (.s 6) (.s 8))⟩]) (.cond (.s 9) .skip (.exit 0))) (.seq (.block 1 (.seq (.reg [⟨(some 12), none, (.mov (.s 0))⟩, ⟨(some 13), none, (.mov (.s 5))⟩, ⟨(some 14), none, (.mov (.s 1))⟩, ⟨(some 15), none, (.bin .rem (.s 14) (.c (.int 3)))⟩, ⟨(some 16), none, (.bin .eql (.s 15) (.c (.int 0)))⟩, ⟨(some 17), none, (.iadr none 2 (.s 12) (.s 13))⟩, ⟨(some 18), none, (.fadr 0 (.s 17))⟩, ⟨none, none, (.store false 1 (.s 18) (.s 16))⟩]) (.seq (.reg [⟨(some 19), none, (.mov (.s 1))⟩, ⟨(some 20), none, (.bin .add (.s 19) (.c (.int 1)))⟩, ⟨(some 1), none, (.mov (.s 20))⟩]) (.seq (.reg [⟨(some 21), none, (.mov (.s 0))⟩, ⟨(some 22), none, (.mov (.s 5))⟩, ⟨(some 23), none, (.mov (.s 1))⟩, ⟨(some 24), none, (.iadr none 2 (.s 21) (.s 22))⟩, ⟨(some 25), none, (.fadr 1 (.s 24))⟩, ⟨none, none, (.store false 1 (.s 25) (.s 23))⟩]) (.reg [⟨(some 26), none, (.mov (.s 1))⟩, ⟨(some 27), none, (.bin .add (.s 26) (.c (.int 1)))⟩, ⟨(some 1), none, (.mov (.s 27))⟩]))))) (.reg [⟨(some 10), none, (.mov (.s 5))⟩, ⟨(some 11), none, (.bin .add (.s 10) (.c (.int 1)))⟩, ⟨(some 5), none, (.mov (.s 11))⟩])))))) (.seq (.reg [⟨(some 28), none, (.mov (.s 1))⟩, ⟨(some 4), none, (.mov (.s 28))⟩]) .ret)))⟩
theorem p60 : prepF Try.prog 60 = some c60 := by kernel_rfl
def c61 : F := ⟨33, [(.tmp 4)], (.seq (.reg [⟨(some 4), none, (.mov (.c (.int 0)))⟩]) (.seq (.seq (.reg [⟨(some 5), none, (.mov (.c (.int 0)))⟩]) (.block 0 (.loop (.seq (.seq (.reg [⟨(some 6), none, (.mov (.s 5))⟩, ⟨(some 7), none, (.mov (.s 0))⟩, ⟨(some 8), none, (.lenl (.s 7))⟩, ⟨(some 9), none, (.bin .lss (.s 6) (.s 8))⟩]) (.cond (.s 9) .skip (.exit 0))) (.seq (.block 1 (.seq (.seq (.reg [⟨(some 12), none, (.mov (.s 0))⟩, ⟨(some 13), none, (.mov (.s 5))⟩, ⟨(some 14), none, (.iadr none 2 (.s 12) (.s 13))⟩, ⟨(some 15), none, (.fadr 0 (.s 14))⟩, ⟨(some 16), none, (.load false 1 (.s 15))⟩, ⟨(some 17), none, (.mov (.s 1))⟩, ⟨(some 18), none, (.bin .rem (.s 17) (.c (.int 3)))⟩, ⟨(some 19), none, (.bin .eql (.s 18) (.c (.int 0)))⟩, ⟨(some 20), none, (.binb .neq (.s 16) (.s 19))⟩]) (.cond (.s 20) (.seq (.reg [⟨(some 4), none, (.mov (.c (.int (-1))))⟩]) .ret) .skip)) (.seq (.reg [⟨(some 21), none, (.mov (.s 1))⟩, ⟨(some 22), none, (.bin .add (.s 21) (.c (.int 1)))⟩, ⟨(some 1), none, (.mov (.s 22))⟩]) (.seq (.seq (.reg [⟨(some 23), none, (.mov (.s 0))⟩, ⟨(some 24), none, (.mov (.s 5))⟩, ⟨(some 25), none, (.iadr none 2 (.s 23) (.s 24))⟩, ⟨(some 26), none, (.fadr 1 (.s 25))⟩, ⟨(some 27), none, (.load false 1 (.s 26))⟩, ⟨(some 28), none, (.mov (.s 1))⟩, ⟨(some 29), none, (.bin .neq (.s 27) (.s 28))⟩]) (.cond (.s 29) (.seq (.reg [⟨(some 4), none, (.mov (.c (.int (-1))))⟩]) .ret) .skip)) (.reg [⟨(some 30), none, (.mov (.s 1))⟩, ⟨(some 31), none, (.bin .add (.s 30) (.c (.int 1)))⟩, ⟨(some 1), none, (.mov (.s 31))⟩]))))) (.reg [⟨(some 10), none, (.mov (.s 5))⟩, ⟨(some 11), none, (.bin .add (.s 10) (.c (.int 1)))⟩, ⟨(some 5), none, (.mov (.s 11))⟩])))))) (.seq (.reg [⟨(some 32), none, (.mov (.s 1))⟩, ⟨(some 4), none, (.mov (.s 32))⟩]) .ret)))⟩
theorem p61 : prepF Try.prog 61 = some c61 := by kernel_rfl
def c105 : F := ⟨33, [(.cell 2 true 2)], (.seq (.reg [⟨(some 2), none, (.alloc [(.bool false), (.int 0)])⟩]) (.seq (.reg [⟨(some 4), none, (.mov (.s 0))⟩, ⟨(some 5), none, (.call 48 [(.s 4)])⟩, ⟨(some 3), none, (.mov (.s 5))⟩]) (.seq (.seq (.reg [⟨(some 6), none, (.mov (.s 3))⟩, ⟨(some 7), none, (.bin .eql (.s 6) (.c (.int 255)))⟩]) (.cond (.s 7) (.seq (.reg [⟨(some 8), none, (.build [(.bool false), (.int 0)] [(1, (1, (.c (.int 9223372036854775807))))])⟩, ⟨none, none, (.store true 2 (.s 2) (.s 8))⟩]) .ret) .skip)) (.seq (.seq (.reg [⟨(some 9), none, (.mov (.s 3))⟩, ⟨(some 10), none, (.bin .eql (.s 9) (.c (.int 254)))⟩]) (.cond (.s 10) (.seq (.reg [⟨(some 11), none, (.build [(.bool false), (.int 0)] [(1, (1, (.c (.int (-9223372036854775808)))))])⟩, ⟨none, none, (.store true 2 (.s 2) (.s 11))⟩]) .ret) .skip)) (.seq (.seq (.reg [⟨(some 12), none, (.mov (.s 3))⟩, ⟨(some 13), none, (.bin .eql (.s 12) (.c (.int 253)))⟩]) (.cond (.s 13) (.seq (.reg [⟨(some 14), none, (.build [(.bool false), (.int 0)] [(0, (1, (.c (.bool true)))), (1, (1, (.c (.int 7))))])⟩, ⟨none, none, (.store true 2 (.s 2) (.s 14))⟩]) .ret) .skip)) (.seq (.seq (.reg [⟨(some 15), none, (.mov (.s 3))⟩, ⟨(some 16), none, (.bin .rem (.s 15) (.c (.int 7)))⟩, ⟨(some 17), none, (.bin .eql (.s 16) (.c (.int 6)))⟩]) (.cond (.s 17) (.seq (.reg [⟨(some 18), none, (.build [(.bool false), (.int 0)] [(0, (1, (.c (.bool true))))])⟩, ⟨none, none, (.store true 2 (.s 2) (.s 18))⟩]) .ret) .skip)) (.seq (.seq (.reg [⟨(some 19), none, (.mov (.s 3))⟩, ⟨(some 20), none, (.bin .geq (.s 19) (.c (.int 240)))⟩]) (.cond (.s 20) (.seq (.reg [⟨(some 21), none, (.mov (.s 0))⟩, ⟨(some 22), none, (.call 48 [(.s 21)])⟩, ⟨(some 23), none, (.bin .mul (.s 22) (.c (.int 256)))⟩, ⟨(some 24), none, (.mov (.s 0))⟩, ⟨(some 25), none, (.call 48 [(.s 24)])⟩, ⟨(some 26), none, (.bin .add (.s 23) (.s 25))⟩, ⟨(some 27), none, (.bin .sub (.s 26) (.c (.int 30000)))⟩, ⟨(some 28), none, (.call 159 [(.s 27)])⟩, ⟨none, none, (.store true 2 (.s 2) (.s 28))⟩]) .ret) .skip)) (.seq (.reg [⟨(some 29), none, (.mov (.s 3))⟩, ⟨(some 30), none, (.bin .rem (.s 29) (.c (.int 7)))⟩, ⟨(some 31), none, (.bin .sub (.s 30) (.c (.int 1)))⟩, ⟨(some 32), none, (.call 159 [(.s 31)])⟩, ⟨none, none, (.store true 2 (.s 2) (.s 32))⟩]) .ret))))))))⟩
theorem p105 : prepF Try.prog 105 = some c105 := by kernel_rfl
def c108 : F := ⟨8, [(.tmp 2)], (.seq (.reg [⟨(some 2), none, (.mov (.c .zs))⟩]) (.seq (.seq (.reg [⟨(some 3), none, (.mov (.s 0))⟩, ⟨(some 4), none, (.isnil false (.s 3))⟩]) (.cond (.s 4) (.seq (.reg [⟨(some 2), none, (.mov (.c .zs))⟩]) .ret) .skip)) (.seq (.reg [⟨(some 5), none, (.lit 1 [(.sl [])] 0 [])⟩, ⟨(some 6), none, (.mov (.s 0))⟩, ⟨(some 7), none, (.app 1 (.s 5) (.s 6))⟩, ⟨(some 2), none, (.mov (.s 7))⟩]) .ret)))⟩
theorem p108 : prepF Try.prog 108 = some c108 := by kernel_rfl
def c109 : F := ⟨9, [], (.reg [⟨(some 4), none, (.mov (.s 0))⟩, ⟨(some 5), none, (.mov (.s 0))⟩, ⟨(some 6), none, (.lenl (.s 5))⟩, ⟨(some 7), none, (.mov (.s 1))⟩, ⟨(some 8), none, (.call 160 [(.s 4), (.s 6), (.s 7)])⟩])⟩
theorem p109 : prepF Try.prog 109 = some c109 := by kernel_rfl
def c160 : F := ⟨63, [], (.seq (.reg [⟨(some 6), none, (.mov (.c (.int 20)))⟩]) (.seq (.reg [⟨(some 10), none, (.mov (.s 6))⟩, ⟨(some 7), none, (.mov (.c (.int 0)))⟩, ⟨(some 8), none, (.mov (.s 10))⟩]) (.seq (.block 0 (.loop (.seq (.seq (.reg [⟨(some 11), none, (.mov (.s 8))⟩, ⟨(some 12), none, (.mov (.s 1))⟩, ⟨(some 13), none, (.bin .leq (.s 11) (.s 12))⟩]) (.cond (.s 13) .skip (.exit 0))) (.block 1 (.seq (.reg [⟨(some 14), none, (.mov (.s 0))⟩, ⟨(some 15), none, (.mov (.s 7))⟩, ⟨(some 16), none, (.mov (.s 8))⟩, ⟨(some 17), none, (.mov (.s 2))⟩, ⟨(some 18), none, (.call 190 [(.s 14), (.s 15), (.s 16), (.s 17)])⟩]) (.seq (.reg [⟨(some 19), none, (.mov (.s 8))⟩, ⟨(some 7), none, (.mov (.s 19))⟩]) (.reg [⟨(some 20), none, (.mov (.s 8))⟩, ⟨(some 21), none, (.mov (.s 6))⟩, ⟨(some 22), none, (.bin .add (.s 20) (.s 21))⟩, ⟨(some 8), none, (.mov (.s 22))⟩]))))))) (.seq (.reg [⟨(some 23), none, (.mov (.s 0))⟩, ⟨(some 24), none, (.mov (.s 7))⟩, ⟨(some 25), none, (.mov (.s 1))⟩, ⟨(some 26), none, (.mov (.s 2))⟩, ⟨(some 27), none, (.call 190 [(.s 23), (.s 24), (.s 25), (.s 26)])⟩]) (.block 2 (.loop (.seq (.seq (.reg [⟨(some 28), none, (.mov (.s 6))⟩, ⟨(some 29), none, (.mov (.s 1))⟩, ⟨(some 30), none, (.bin .lss (.s 28) (.s 29))⟩]) (.cond (.s 30) .skip (.exit 2))) (.block 3 (.seq (.reg [⟨(some 31), none, (.mov (.s 6))⟩, ⟨(some 32), none, (.bin .mul (.c (.int 2)) (.s 31))⟩, ⟨(some 7), none, (.mov (.c (.int 0)))⟩, ⟨(some 8), none, (.mov (.s 32))⟩]) (.seq (.block 4 (.loop (.seq (.seq (.reg [⟨(some 33), none, (.mov (.s 8))⟩, ⟨(some 34), none, (.mov (.s 1))⟩, ⟨(some 35), none, (.bin .leq (.s 33) (.s 34))⟩]) (.cond (.s 35) .skip (.exit 4))) (.block 5 (.seq (.reg [⟨(some 36), none, (.mov (.s 0))⟩, ⟨(some 37), none, (.mov (.s 7))⟩, ⟨(some 38), none, (.mov (.s 7))⟩, ⟨(some 39), none, (.mov (.s 6))⟩, ⟨(some 40), none, (.bin .add (.s 38) (.s 39))⟩, ⟨(some 41), none, (.mov (.s 8))⟩, ⟨(some 42), none, (.mov (.s 2))⟩, ⟨(some 43), none, (.call 191 [(.s 36), (.s 37), (.s 40), (.s 41), (.s 42)])⟩]) (.seq (.reg [⟨(some 44), none, (.mov (.s 8))⟩, ⟨(some 7), none, (.mov (.s 44))⟩]) (.reg [⟨(some 45), none, (.mov (.s 8))⟩, ⟨(some 46), none, (.mov (.s 6))⟩, ⟨(some 47), none, (.bin .mul (.c (.int 2)) (.s 46))⟩, ⟨(some 48), none, (.bin .add (.s 45) (.s 47))⟩, ⟨(some 8), none, (.mov (.s 48))⟩]))))))) (.seq (.seq (.reg [⟨(some 49), none, (.mov (.s 7))⟩, ⟨(some 50), none, (.mov (.s 6))⟩, ⟨(some 51), none, (.bin .add (.s 49) (.s 50))⟩, ⟨(some 9), none, (.mov (.s 51))⟩]) (.seq (.reg [⟨(some 52), none, (.mov (.s 9))⟩, ⟨(some 53), none, (.mov (.s 1))⟩, ⟨(some 54), none, (.bin .lss (.s 52) (.s 53))⟩]) (.cond (.s 54) (.reg [⟨(some 55), none, (.mov (.s 0))⟩, ⟨(some 56), none, (.mov (.s 7))⟩, ⟨(some 57), none, (.mov (.s 9))⟩, ⟨(some 58), none, (.mov (.s 1))⟩, ⟨(some 59), none, (.mov (.s 2))⟩, ⟨(some 60), none, (.call 191 [(.s 55), (.s 56), (.s 57), (.s 58), (.s 59)])⟩]) .skip))) (.reg [⟨(some 61), none, (.mov (.s 6))⟩, ⟨(some 62), none, (.bin .mul (.s 61) (.c (.int 2)))⟩, ⟨(some 6), none, (.mov (.s 62))⟩]))))))))))))⟩
theorem p160 : prepF Try.prog 160 = some c160 := by kernel_rfl
def c190 : F := ⟨53, [], (.seq (.reg [⟨(some 10), none, (.mov (.s 1))⟩, ⟨(some 11), none, (.bin .add (.s 10) (.c (.int 1)))⟩, ⟨(some 8), none, (.mov (.s 11))⟩]) (.block 0 (.loop (.seq (.seq (.reg [⟨(some 12), none, (.mov (.s 8))⟩, ⟨(some 13), none, (.mov (.s 2))⟩, ⟨(some 14), none, (.bin .lss (.s 12) (.s 13))⟩]) (.cond (.s 14) .skip (.exit 0))) (.seq (.block 1 (.seq (.reg [⟨(some 17), none, (.mov (.s 8))⟩, ⟨(some 9), none, (.mov (.s 17))⟩]) (.block 2 (.loop (.seq (.seq (.dreg [⟨⟨(some 18), none, (.mov (.s 9))⟩, [], [9]⟩, ⟨⟨(some 19), none, (.mov (.s 1))⟩, [0], [1]⟩, ⟨⟨(some 20), none, (.bin .gtr (.s 18) (.s 19))⟩, [], [18, 19]⟩, ⟨⟨(some 21), none, (.mov (.s 20))⟩, [], [20]⟩, ⟨⟨(some 22), (some (21, true)), (.mov (.s 3))⟩, [], [3, 21]⟩, ⟨⟨(some 23), (some (21, true)), (.mov (.s 0))⟩, [4], [0, 21]⟩, ⟨⟨(some 24), (some (21, true)), (.mov (.s 9))⟩, [4, 5], [9, 21]⟩, ⟨⟨(some 25), (some (21, true)), (.iadr none 1 (.s 23) (.s 24))⟩, [4], [23, 24, 21]⟩, ⟨⟨(some 26), (some (21, true)), (.load false 1 (.s 25))⟩, [4], [25, 21]⟩, ⟨⟨(some 27), (some (21, true)), (.mov (.s 0))⟩, [4, 5, 6, 7, 8], [0, 21]⟩, ⟨⟨(some 28), (some (21, true)), (.mov (.s 9))⟩, [4, 5, 6, 7, 8, 9], [9, 21]⟩, ⟨⟨(some 29), (some (21, true)), (.bin .sub (.s 28) (.c (.int 1)))⟩, [4, 5, 6, 7, 8, 9], [28, 21]⟩, ⟨⟨(some 30), (some (21, true)), (.iadr none 1 (.s 27) (.s 29))⟩, [4, 5, 6, 7, 8], [27, 29, 21]⟩, ⟨⟨(some 31), (some (21, true)), (.load false 1 (.s 30))⟩, [4, 5, 6, 7, 8], [30, 21]⟩, ⟨⟨(some 32), (some (21, true)), (.callv (.s 22) [(.s 26), (.s 31)])⟩, [], [22, 26, 31, 21]⟩, ⟨⟨(some 33), (some (21, true)), (.bin .lss (.s 32) (.c (.int 0)))⟩, [], [32, 21]⟩, ⟨⟨(some 34), none, (.pick (.s 21) (.s 33) (.c (.bool false)))⟩, [], [21, 33]⟩]) (.cond (.s 34) .skip (.exit 2))) (.seq (.block 3 (.dreg [⟨⟨(some 37), none, (.mov (.s 0))⟩, [], [0]⟩, ⟨⟨(some 38), none, (.mov (.s 9))⟩, [0], [9]⟩, ⟨⟨(some 39), none, (.mov (.s 0))⟩, [0, 1], [0]⟩, ⟨⟨(some 40), none, (.mov (.s 9))⟩, [0, 1, 2], [9]⟩, ⟨⟨(some 41), none, (.bin .sub (.s 40) (.c (.int 1)))⟩, [0, 1, 2], [40]⟩, ⟨⟨(some 42), none, (.mov (.s 0))⟩, [0, 1, 2, 3, 4], [0]⟩, ⟨⟨(some 43), none, (.mov (.s 9))⟩, [0, 1, 2, 3, 4, 5], [9]⟩, ⟨⟨(some 44), none, (.bin .sub (.s 43) (.c (.int 1)))⟩, [0, 1, 2, 3, 4, 5], [43]⟩, ⟨⟨(some 45), none, (.iadr none 1 (.s 42) (.s 44))⟩, [0, 1, 2, 3, 4], [42, 44]⟩, ⟨⟨(some 46), none, (.load false 1 (.s 45))⟩, [0, 1, 2, 3, 4], [45]⟩, ⟨⟨(some 47), none, (.mov (.s 0))⟩, [0, 1, 2, 3, 4, 5, 6, 7, 8, 9], [0]⟩, ⟨⟨(some 48), none, (.mov (.s 9))⟩, [0, 1, 2, 3, 4, 5, 6, 7, 8, 9, 10], [9]⟩, ⟨⟨(some 49), none, (.iadr none 1 (.s 47) (.s 48))⟩, [0, 1, 2, 3, 4, 5, 6, 7, 8, 9], [47, 48]⟩, ⟨⟨(some 50), none, (.load false 1 (.s 49))⟩, [0, 1, 2, 3, 4, 5, 6, 7, 8, 9], [49]⟩, ⟨⟨(some 51), none, (.iadr none 1 (.s 37) (.s 38))⟩, [2, 3, 4], [37, 38]⟩, ⟨⟨none, none, (.store false 1 (.s 51) (.s 46))⟩, [2, 3, 4], [51, 46]⟩, ⟨⟨(some 52), none, (.iadr none 1 (.s 39) (.s 41))⟩, [], [39, 41]⟩, ⟨⟨none, none, (.store false 1 (.s 52) (.s 50))⟩, [], [52, 50]⟩])) (.reg [⟨(some 35), none, (.mov (.s 9))⟩, ⟨(some 36), none, (.bin .sub (.s 35) (.c (.int 1)))⟩, ⟨(some 9), none, (.mov (.s 36))⟩]))))))) (.reg [⟨(some 15), none, (.mov (.s 8))⟩, ⟨(some 16), none, (.bin .add (.s 15) (.c (.int 1)))⟩, ⟨(some 8), none, (.mov (.s 16))⟩]))))))⟩
theorem p190 : prepF Try.prog 190 = some c190 := by kernel_rfl
def c191 : F := ⟨220, [], (.seq (.seq (.reg [⟨(some 25), none, (.mov (.s 2))⟩, ⟨(some 26), none, (.mov (.s 1))⟩, ⟨(some 27), none, (.bin .sub (.s 25) (.s 26))⟩, ⟨(some 28), none, (.bin .eql (.s 27) (.c (.int 1)))⟩]) (.cond (.s 28) (.seq (.reg [⟨(some 29), none, (.mov (.s 2))⟩, ⟨(some 10), none, (.mov (.s 29))⟩]) (.seq (.reg [⟨(some 30), none, (.mov (.s 3))⟩, ⟨(some 11), none, (.mov (.s 30))⟩]) (.seq (.block 0 (.loop (.seq (.seq (.reg [⟨(some 31), none, (.mov (.s 10))⟩, ⟨(some 32), none, (.mov (.s 11))⟩, ⟨(some 33), none, (.bin .lss (.s 31) (.s 32))⟩]) (.cond (.s 33) .skip (.exit 0))) (.block 1 (.seq (.reg [⟨(some 34), none, (.mov (.s 10))⟩, ⟨(some 35), none, (.mov (.s 11))⟩, ⟨(some 36), none, (.bin .add (.s 34) (.s 35))⟩, ⟨(some 37), none, (.convi .u64 (.s 36))⟩, ⟨(some 38), none, (.bin .shr (.s 37) (.c (.e (.v (.int .u64 1)))))⟩, ⟨(some 39), none, (.convi .i64 (.s 38))⟩, ⟨(some 12), none, (.mov (.s 39))⟩]) (.seq (.dreg [⟨⟨(some 40), none, (.mov (.s 4))⟩, [], [4]⟩, ⟨⟨(some 41), none, (.mov (.s 0))⟩, [0], [0]⟩, ⟨⟨(some 42), none, (.mov (.s 12))⟩, [0, 1], [12]⟩, ⟨⟨(some 43), none, (.iadr none 1 (.s 41) (.s 42))⟩, [0], [41, 42]⟩, ⟨⟨(some 44), none, (.load false 1 (.s 43))⟩, [0], [43]⟩, ⟨⟨(some 45), none, (.mov (.s 0))⟩, [0, 1, 2, 3, 4], [0]⟩, ⟨⟨(some 46), none, (.mov (.s 1))⟩, [0, 1, 2, 3, 4, 5], [1]⟩, ⟨⟨(some 47), none, (.iadr none 1 (.s 45) (.s 46))⟩, [0, 1, 2, 3, 4], [45, 46]⟩, ⟨⟨(some 48), none, (.load false 1 (.s 47))⟩, [0, 1, 2, 3, 4], [47]⟩, ⟨⟨(some 49), none, (.callv (.s 40) [(.s 44), (.s 48)])⟩, [], [40, 44, 48]⟩, ⟨⟨(some 50), none, (.bin .lss (.s 49) (.c (.int 0)))⟩, [], [49]⟩]) (.cond (.s 50) (.reg [⟨(some 51), none, (.mov (.s 12))⟩, ⟨(some 52), none, (.bin .add (.s 51) (.c (.int 1)))⟩, ⟨(some 10), none, (.mov (.s 52))⟩]) (.reg [⟨(some 53), none, (.mov (.s 12))⟩, ⟨(some 11), none, (.mov (.s 53))⟩])))))))) (.seq (.seq (.reg [⟨(some 54), none, (.mov (.s 1))⟩, ⟨(some 13), none, (.mov (.s 54))⟩]) (.block 2 (.loop (.seq (.seq (.reg [⟨(some 55), none, (.mov (.s 13))⟩, ⟨(some 56), none, (.mov (.s 10))⟩, ⟨(some 57), none, (.bin .sub (.s 56) (.c (.int 1)))⟩, ⟨(some 58), none, (.bin .lss (.s 55) (.s 57))⟩]) (.cond (.s 58) .skip (.exit 2))) (.seq (.block 3 (.dreg [⟨⟨(some 61), none, (.mov (.s 0))⟩, [], [0]⟩, ⟨⟨(some 62), none, (.mov (.s 13))⟩, [0], [13]⟩, ⟨⟨(some 63), none, (.mov (.s 0))⟩, [0, 1], [0]⟩, ⟨⟨(some 64), none, (.mov (.s 13))⟩, [0, 1, 2], [13]⟩, ⟨⟨(some 65), none, (.bin .add (.s 64) (.c (.int 1)))⟩, [0, 1, 2], [64]⟩, ⟨⟨(some 66), none, (.mov (.s 0))⟩, [0, 1, 2, 3, 4], [0]⟩, ⟨⟨(some 67), none, (.mov (.s 13))⟩, [0, 1, 2, 3, 4, 5], [13]⟩, ⟨⟨(some 68), none, (.bin .add (.s 67) (.c (.int 1)))⟩, [0, 1, 2, 3, 4, 5], [67]⟩, ⟨⟨(some 69), none, (.iadr none 1 (.s 66) (.s 68))⟩, [0, 1, 2, 3, 4], [66, 68]⟩, ⟨⟨(some 70), none, (.load false 1 (.s 69))⟩, [0, 1, 2, 3, 4], [69]⟩, ⟨⟨(some 71), none, (.mov (.s 0))⟩, [0, 1, 2, 3, 4, 5, 6, 7, 8, 9], [0]⟩, ⟨⟨(some 72), none, (.mov (.s 13))⟩, [0, 1, 2, 3, 4, 5, 6, 7, 8, 9, 10], [13]⟩, ⟨⟨(some 73), none, (.iadr none 1 (.s 71) (.s 72))⟩, [0, 1, 2, 3, 4, 5, 6, 7, 8, 9], [71, 72]⟩, ⟨⟨(some 74), none, (.load false 1 (.s 73))⟩, [0, 1, 2, 3, 4, 5, 6, 7, 8, 9], [73]⟩, ⟨⟨(some 75), none, (.iadr none 1 (.s 61) (.s 62))⟩, [2, 3, 4], [61, 62]⟩, ⟨⟨none, none, (.store false 1 (.s 75) (.s 70))⟩, [2, 3, 4], [75, 70]⟩, ⟨⟨(some 76), none, (.iadr none 1 (.s 63) (.s 65))⟩, [], [63, 65]⟩, ⟨⟨none, none, (.store false 1 (.s 76) (.s 74))⟩, [], [76, 74]⟩])) (.reg [⟨(some 59), none, (.mov (.s 13))⟩, ⟨(some 60), none, (.bin .add (.s 59) (.c (.int 1)))⟩, ⟨(some 13), none, (.mov (.s 60))⟩])))))) .ret)))) .skip)) (.seq (.seq (.reg [⟨(some 77), none, (.mov (.s 3))⟩, ⟨(some 78), none, (.mov (.s 2))⟩, ⟨(some 79), none, (.bin .sub (.s 77) (.s 78))⟩, ⟨(some 80), none, (.bin .eql (.s 79) (.c (.int 1)))⟩]) (.cond (.s 80) (.seq (.reg [⟨(some 81), none, (.mov (.s 1))⟩, ⟨(some 14), none, (.mov (.s 81))⟩]) (.seq (.reg [⟨(some 82), none, (.mov (.s 2))⟩, ⟨(some 15), none, (.mov (.s 82))⟩]) (.seq (.block 4 (.loop (.seq (.seq (.reg [⟨(some 83), none, (.mov (.s 14))⟩, ⟨(some 84), none, (.mov (.s 15))⟩, ⟨(some 85), none, (.bin .lss (.s 83) (.s 84))⟩]) (.cond (.s 85) .skip (.exit 4))) (.block 5 (.seq (.reg [⟨(some 86), none, (.mov (.s 14))⟩, ⟨(some 87), none, (.mov (.s 15))⟩, ⟨(some 88), none, (.bin .add (.s 86) (.s 87))⟩, ⟨(some 89), none, (.convi .u64 (.s 88))⟩, ⟨(some 90), none, (.bin .shr (.s 89) (.c (.e (.v (.int .u64 1)))))⟩, ⟨(some 91), none, (.convi .i64 (.s 90))⟩, ⟨(some 16), none, (.mov (.s 91))⟩]) (.seq (.dreg [⟨⟨(some 92), none, (.mov (.s 4))⟩, [], [4]⟩, ⟨⟨(some 93), none, (.mov (.s 0))⟩, [0], [0]⟩, ⟨⟨(some 94), none, (.mov (.s 2))⟩, [0, 1], [2]⟩, ⟨⟨(some 95), none, (.iadr none 1 (.s 93) (.s 94))⟩, [0], [93, 94]⟩, ⟨⟨(some 96), none, (.load false 1 (.s 95))⟩, [0], [95]⟩, ⟨⟨(some 97), none, (.mov (.s 0))⟩, [0, 1, 2, 3, 4], [0]⟩, ⟨⟨(some 98), none, (.mov (.s 16))⟩, [0, 1, 2, 3, 4, 5], [16]⟩, ⟨⟨(some 99), none, (.iadr none 1 (.s 97) (.s 98))⟩, [0, 1, 2, 3, 4], [97, 98]⟩, ⟨⟨(some 100), none, (.load false 1 (.s 99))⟩, [0, 1, 2, 3, 4], [99]⟩, ⟨⟨(some 101), none, (.callv (.s 92) [(.s 96), (.s 100)])⟩, [], [92, 96, 100]⟩, ⟨⟨(some 102), none, (.bin .lss (.s 101) (.c (.int 0)))⟩, [], [101]⟩, ⟨⟨(some 103), none, (.un .not (.s 102))⟩, [], [102]⟩]) (.cond (.s 103) (.reg [⟨(some 104), none, (.mov (.s 16))⟩, ⟨(some 105), none, (.bin .add (.s 104) (.c (.int 1)))⟩, ⟨(some 14), none, (.mov (.s 105))⟩]) (.reg [⟨(some 106), none, (.mov (.s 16))⟩, ⟨(some 15), none, (.mov (.s 106))⟩])))))))) (.seq (.seq (.reg [⟨(some 107), none, (.mov (.s 2))⟩, ⟨(some 17), none, (.mov (.s 107))⟩]) (.block 6 (.loop (.seq (.seq (.reg [⟨(some 108), none, (.mov (.s 17))⟩, ⟨(some 109), none, (.mov (.s 14))⟩, ⟨(some 110), none, (.bin .gtr (.s 108) (.s 109))⟩]) (.cond (.s 110) .skip (.exit 6))) (.seq (.block 7 (.dreg [⟨⟨(some 113), none, (.mov (.s 0))⟩, [], [0]⟩, ⟨⟨(some 114), none, (.mov (.s 17))⟩, [0], [17]⟩, ⟨⟨(some 115), none, (.mov (.s 0))⟩, [0, 1], [0]⟩, ⟨⟨(some 116), none, (.mov (.s 17))⟩, [0, 1, 2], [17]⟩, ⟨⟨(some 117), none, (.bin .sub (.s 116) (.c (.int 1)))⟩, [0, 1, 2], [116]⟩, ⟨⟨(some 118), none, (.mov (.s 0))⟩, [0, 1, 2, 3, 4], [0]⟩, ⟨⟨(some 119), none, (.mov (.s 17))⟩, [0, 1, 2, 3, 4, 5], [17]⟩, ⟨⟨(some 120), none, (.bin .sub (.s 119) (.c (.int 1)))⟩, [0, 1, 2, 3, 4, 5], [119]⟩, ⟨⟨(some 121), none, (.iadr none 1 (.s 118) (.s 120))⟩, [0, 1, 2, 3, 4], [118, 120]⟩, ⟨⟨(some 122), none, (.load false 1 (.s 121))⟩, [0, 1, 2, 3, 4], [121]⟩, ⟨⟨(some 123), none, (.mov (.s 0))⟩, [0, 1, 2, 3, 4, 5, 6, 7, 8, 9], [0]⟩, ⟨⟨(some 124), none, (.mov (.s 17))⟩, [0, 1, 2, 3, 4, 5, 6, 7, 8, 9, 10], [17]⟩, ⟨⟨(some 125), none, (.iadr none 1 (.s 123) (.s 124))⟩, [0, 1, 2, 3, 4, 5, 6, 7, 8, 9], [123, 124]⟩, ⟨⟨(some 126), none, (.load false 1 (.s 125))⟩, [0, 1, 2, 3, 4, 5, 6, 7, 8, 9], [125]⟩, ⟨⟨(some 127), none, (.iadr none 1 (.s 113) (.s 114))⟩, [2, 3, 4], [113, 114]⟩, ⟨⟨none, none, (.store false 1 (.s 127) (.s 122))⟩, [2, 3, 4], [127, 122]⟩, ⟨⟨(some 128), none, (.iadr none 1 (.s 115) (.s 117))⟩, [], [115, 117]⟩, ⟨⟨none, none, (.store false 1 (.s 128) (.s 126))⟩, [], [128, 126]⟩])) (.reg [⟨(some 111), none, (.mov (.s 17))⟩, ⟨(some 112), none, (.bin .sub (.s 111) (.c (.int 1)))⟩, ⟨(some 17), none, (.mov (.s 112))⟩])))))) .ret)))) .skip)) (.seq (.reg [⟨(some 129), none, (.mov (.s 1))⟩, ⟨(some 130), none, (.mov (.s 3))⟩, ⟨(some 131), none, (.bin .add (.s 129) (.s 130))⟩, ⟨(some 132), none, (.convi .u64 (.s 131))⟩, ⟨(some 133), none, (.bin .shr (.s 132) (.c (.e (.v (.int .u64 1)))))⟩, ⟨(some 134), none, (.convi .i64 (.s 133))⟩, ⟨(some 18), none, (.mov (.s 134))⟩]) (.seq (.reg [⟨(some 135), none, (.mov (.s 18))⟩, ⟨(some 136), none, (.mov (.s 2))⟩, ⟨(some 137), none, (.bin .add (.s 135) (.s 136))⟩, ⟨(some 19), none, (.mov (.s 137))⟩]) (.seq (.reg [⟨(some 20), none, (.mov (.c (.int 0)))⟩, ⟨(some 21), none, (.mov (.c (.int 0)))⟩]) (.seq (.seq (.reg [⟨(some 138), none, (.mov (.s 2))⟩, ⟨(some 139), none, (.mov (.s 18))⟩, ⟨(some 140), none, (.bin .gtr (.s 138) (.s 139))⟩]) (.cond (.s 140) (.seq (.reg [⟨(some 141), none, (.mov (.s 19))⟩, ⟨(some 142), none, (.mov (.s 3))⟩, ⟨(some 143), none, (.bin .sub (.s 141) (.s 142))⟩, ⟨(some 20), none, (.mov (.s 143))⟩]) (.reg [⟨(some 144), none, (.mov (.s 18))⟩, ⟨(some 21), none, (.mov (.s 144))⟩])) (.seq (.reg [⟨(some 145), none, (.mov (.s 1))⟩, ⟨(some 20), none, (.mov (.s 145))⟩]) (.reg [⟨(some 146), none, (.mov (.s 2))⟩, ⟨(some 21), none, (.mov (.s 146))⟩])))) (.seq (.reg [⟨(some 147), none, (.mov (.s 19))⟩, ⟨(some 148), none, (.bin .sub (.s 147) (.c (.int 1)))⟩, ⟨(some 22), none, (.mov (.s 148))⟩]) (.seq (.block 8 (.loop (.seq (.seq (.reg [⟨(some 149), none, (.mov (.s 20))⟩, ⟨(some 150), none, (.mov (.s 21))⟩, ⟨(some 151), none, (.bin .lss (.s 149) (.s 150))⟩]) (.cond (.s 151) .skip (.exit 8))) (.block 9 (.seq (.reg [⟨(some 152), none, (.mov (.s 20))⟩, ⟨(some 153), none, (.mov (.s 21))⟩, ⟨(some 154), none, (.bin .add (.s 152) (.s 153))⟩, ⟨(some 155), none, (.convi .u64 (.s 154))⟩, ⟨(some 156), none, (.bin .shr (.s 155) (.c (.e (.v (.int .u64 1)))))⟩, ⟨(some 157), none, (.convi .i64 (.s 156))⟩, ⟨(some 23), none, (.mov (.s 157))⟩]) (.seq (.dreg [⟨⟨(some 158), none, (.mov (.s 4))⟩, [], [4]⟩, ⟨⟨(some 159), none, (.mov (.s 0))⟩, [0], [0]⟩, ⟨⟨(some 160), none, (.mov (.s 22))⟩, [0, 1], [22]⟩, ⟨⟨(some 161), none, (.mov (.s 23))⟩, [0, 1, 2], [23]⟩, ⟨⟨(some 162), none, (.bin .sub (.s 160) (.s 161))⟩, [0, 1], [160, 161]⟩, ⟨⟨(some 163), none, (.iadr none 1 (.s 159) (.s 162))⟩, [0], [159, 162]⟩, ⟨⟨(some 164), none, (.load false 1 (.s 163))⟩, [0], [163]⟩, ⟨⟨(some 165), none, (.mov (.s 0))⟩, [0, 1, 2, 3, 4, 5, 6], [0]⟩, ⟨⟨(some 166), none, (.mov (.s 23))⟩, [0, 1, 2, 3, 4, 5, 6, 7], [23]⟩, ⟨⟨(some 167), none, (.iadr none 1 (.s 165) (.s 166))⟩, [0, 1, 2, 3, 4, 5, 6], [165, 166]⟩, ⟨⟨(some 168), none, (.load false 1 (.s 167))⟩, [0, 1, 2, 3, 4, 5, 6], [167]⟩, ⟨⟨(some 169), none, (.callv (.s 158) [(.s 164), (.s 168)])⟩, [], [158, 164, 168]⟩, ⟨⟨(some 170), none, (.bin .lss (.s 169) (.c (.int 0)))⟩, [], [169]⟩, ⟨⟨(some 171), none, (.un .not (.s 170))⟩, [], [170]⟩]) (.cond (.s 171) (.reg [⟨(some 172), none, (.mov (.s 23))⟩, ⟨(some 173), none, (.bin .add (.s 172) (.c (.int 1)))⟩, ⟨(some 20), none, (.mov (.s 173))⟩]) (.reg [⟨(some 174), none, (.mov (.s 23))⟩, ⟨(some 21), none, (.mov (.s 174))⟩])))))))) (.seq (.reg [⟨(some 175), none, (.mov (.s 19))⟩, ⟨(some 176), none, (.mov (.s 20))⟩, ⟨(some 177), none, (.bin .sub (.s 175) (.s 176))⟩, ⟨(some 24), none, (.mov (.s 177))⟩]) (.seq (.seq (.reg [⟨(some 178), none, (.mov (.s 20))⟩, ⟨(some 179), none, (.mov (.s 2))⟩, ⟨(some 180), none, (.bin .lss (.s 178) (.s 179))⟩, ⟨(some 181), none, (.mov (.s 180))⟩, ⟨(some 182), (some (181, true)), (.mov (.s 2))⟩, ⟨(some 183), (some (181, true)), (.mov (.s 24))⟩, ⟨(some 184), (some (181, true)), (.bin .lss (.s 182) (.s 183))⟩, ⟨(some 185), none, (.pick (.s 181) (.s 184) (.c (.bool false)))⟩]) (.cond (.s 185) (.reg [⟨(some 186), none, (.mov (.s 0))⟩, ⟨(some 187), none, (.mov (.s 20))⟩, ⟨(some 188), none, (.mov (.s 2))⟩, ⟨(some 189), none, (.mov (.s 24))⟩, ⟨(some 190), none, (.mov (.s 4))⟩, ⟨(some 191), none, (.call 200 [(.s 186), (.s 187), (.s 188), (.s 189), (.s 190)])⟩]) .skip)) (.seq (.seq (.reg [⟨(some 192), none, (.mov (.s 1))⟩, ⟨(some 193), none, (.mov (.s 20))⟩, ⟨(some 194), none, (.bin .lss (.s 192) (.s 193))⟩, ⟨(some 195), none, (.mov (.s 194))⟩, ⟨(some 196), (some (195, true)), (.mov (.s 20))⟩, ⟨(some 197), (some (195, true)), (.mov (.s 18))⟩, ⟨(some 198), (some (195, true)), (.bin .lss (.s 196) (.s 197))⟩, ⟨(some 199), none, (.pick (.s 195) (.s 198) (.c (.bool false)))⟩]) (.cond (.s 199) (.reg [⟨(some 200), none, (.mov (.s 0))⟩, ⟨(some 201), none, (.mov (.s 1))⟩, ⟨(some 202), none, (.mov (.s 20))⟩, ⟨(some 203), none, (.mov (.s 18))⟩, ⟨(some 204), none, (.mov (.s 4))⟩, ⟨(some 205), none, (.call 191 [(.s 200), (.s 201), (.s 202), (.s 203), (.s 204)])⟩]) .skip)) (.seq (.reg [⟨(some 206), none, (.mov (.s 18))⟩, ⟨(some 207), none, (.mov (.s 24))⟩, ⟨(some 208), none, (.bin .lss (.s 206) (.s 207))⟩, ⟨(some 209), none, (.mov (.s 208))⟩, ⟨(some 210), (some (209, true)), (.mov (.s 24))⟩, ⟨(some 211), (some (209, true)), (.mov (.s 3))⟩, ⟨(some 212), (some (209, true)), (.bin .lss (.s 210) (.s 211))⟩, ⟨(some 213), none, (.pick (.s 209) (.s 212) (.c (.bool false)))⟩]) (.cond (.s 213) (.reg [⟨(some 214), none, (.mov (.s 0))⟩, ⟨(some 215), none, (.mov (.s 18))⟩, ⟨(some 216), none, (.mov (.s 24))⟩, ⟨(some 217), none, (.mov (.s 3))⟩, ⟨(some 218), none, (.mov (.s 4))⟩, ⟨(some 219), none, (.call 191 [(.s 214), (.s 215), (.s 216), (.s 217), (.s 218)])⟩]) .skip)))))))))))))⟩
theorem p191 : prepF Try.prog 191 = some c191 := by kernel_rfl
def c200 : F := ⟨58, [], (.seq (.reg [⟨(some 12), none, (.mov (.s 2))⟩, ⟨(some 13), none, (.mov (.s 1))⟩, ⟨(some 14), none, (.bin .sub (.s 12) (.s 13))⟩, ⟨(some 10), none, (.mov (.s 14))⟩]) (.seq (.reg [⟨(some 15), none, (.mov (.s 3))⟩, ⟨(some 16), none, (.mov (.s 2))⟩, ⟨(some 17), none, (.bin .sub (.s 15) (.s 16))⟩, ⟨(some 11), none, (.mov (.s 17))⟩]) (.seq (.block 0 (.loop (.seq (.seq (.reg [⟨(some 18), none, (.mov (.s 10))⟩, ⟨(some 19), none, (.mov (.s 11))⟩, ⟨(some 20), none, (.bin .neq (.s 18) (.s 19))⟩]) (.cond (.s 20) .skip (.exit 0))) (.block 1 (.seq (.reg [⟨(some 21), none, (.mov (.s 10))⟩, ⟨(some 22), none, (.mov (.s 11))⟩, ⟨(some 23), none, (.bin .gtr (.s 21) (.s 22))⟩]) (.cond (.s 23) (.seq (.reg [⟨(some 24), none, (.mov (.s 0))⟩, ⟨(some 25), none, (.mov (.s 2))⟩, ⟨(some 26), none, (.mov (.s 10))⟩, ⟨(some 27), none, (.bin .sub (.s 25) (.s 26))⟩, ⟨(some 28), none, (.mov (.s 2))⟩, ⟨(some 29), none, (.mov (.s 11))⟩, ⟨(some 30), none, (.mov (.s 4))⟩, ⟨(some 31), none, (.call 201 [(.s 24), (.s 27), (.s 28), (.s 29), (.s 30)])⟩]) (.reg [⟨(some 32), none, (.mov (.s 10))⟩, ⟨(some 33), none, (.mov (.s 11))⟩, ⟨(some 34), none, (.bin .sub (.s 32) (.s 33))⟩, ⟨(some 10), none, (.mov (.s 34))⟩])) (.seq (.reg [⟨(some 35), none, (.mov (.s 0))⟩, ⟨(some 36), none, (.mov (.s 2))⟩, ⟨(some 37), none, (.mov (.s 10))⟩, ⟨(some 38), none, (.bin .sub (.s 36) (.s 37))⟩, ⟨(some 39), none, (.mov (.s 2))⟩, ⟨(some 40), none, (.mov (.s 11))⟩, ⟨(some 41), none, (.bin .add (.s 39) (.s 40))⟩, ⟨(some 42), none, (.mov (.s 10))⟩, ⟨(some 43), none, (.bin .sub (.s 41) (.s 42))⟩, ⟨(some 44), none, (.mov (.s 10))⟩, ⟨(some 45), none, (.mov (.s 4))⟩, ⟨(some 46), none, (.call 201 [(.s 35), (.s 38), (.s 43), (.s 44), (.s 45)])⟩]) (.reg [⟨(some 47), none, (.mov (.s 11))⟩, ⟨(some 48), none, (.mov (.s 10))⟩, ⟨(some 49), none, (.bin .sub (.s 47) (.s 48))⟩, ⟨(some 11), none, (.mov (.s 49))⟩])))))))) (.reg [⟨(some 50), none, (.mov (.s 0))⟩, ⟨(some 51), none, (.mov (.s 2))⟩, ⟨(some 52), none, (.mov (.s 10))⟩, ⟨(some 53), none, (.bin .sub (.s 51) (.s 52))⟩, ⟨(some 54), none, (.mov (.s 2))⟩, ⟨(some 55), none, (.mov (.s 10))⟩, ⟨(some 56), none, (.mov (.s 4))⟩, ⟨(some 57), none, (.call 201 [(.s 50), (.s 53), (.s 54), (.s 55), (.s 56)])⟩]))))⟩
theorem p200 : prepF Try.prog 200 = some c200 := by kernel_rfl
def c201 : F := ⟨38, [], (.seq (.reg [⟨(some 10), none, (.mov (.c (.int 0)))⟩]) (.block 0 (.loop (.seq (.seq (.reg [⟨(some 11), none, (.mov (.s 10))⟩, ⟨(some 12), none, (.mov (.s 3))⟩, ⟨(some 13), none, (.bin .lss (.s 11) (.s 12))⟩]) (.cond (.s 13) .skip (.exit 0))) (.seq (.block 1 (.dreg [⟨⟨(some 16), none, (.mov (.s 0))⟩, [], [0]⟩, ⟨⟨(some 17), none, (.mov (.s 1))⟩, [0], [1]⟩, ⟨⟨(some 18), none, (.mov (.s 10))⟩, [0, 1], [10]⟩, ⟨⟨(some 19), none, (.bin .add (.s 17) (.s 18))⟩, [0], [17, 18]⟩, ⟨⟨(some 20), none, (.mov (.s 0))⟩, [0, 1, 2, 3], [0]⟩, ⟨⟨(some 21), none, (.mov (.s 2))⟩, [0, 1, 2, 3, 4], [2]⟩, ⟨⟨(some 22), none, (.mov (.s 10))⟩, [0, 1, 2, 3, 4, 5], [10]⟩, ⟨⟨(some 23), none, (.bin .add (.s 21) (.s 22))⟩, [0, 1, 2, 3, 4], [21, 22]⟩, ⟨⟨(some 24), none, (.mov (.s 0))⟩, [0, 1, 2, 3, 4, 5, 6, 7], [0]⟩, ⟨⟨(some 25), none, (.mov (.s 2))⟩, [0, 1, 2, 3, 4, 5, 6, 7, 8], [2]⟩, ⟨⟨(some 26), none, (.mov (.s 10))⟩, [0, 1, 2, 3, 4, 5, 6, 7, 8, 9], [10]⟩, ⟨⟨(some 27), none, (.bin .add (.s 25) (.s 26))⟩, [0, 1, 2, 3, 4, 5, 6, 7, 8], [25, 26]⟩, ⟨⟨(some 28), none, (.iadr none 1 (.s 24) (.s 27))⟩, [0, 1, 2, 3, 4, 5, 6, 7], [24, 27]⟩, ⟨⟨(some 29), none, (.load false 1 (.s 28))⟩, [0, 1, 2, 3, 4, 5, 6, 7], [28]⟩, ⟨⟨(some 30), none, (.mov (.s 0))⟩, [0, 1, 2, 3, 4, 5, 6, 7, 8, 9, 10, 11, 12, 13], [0]⟩, ⟨⟨(some 31), none, (.mov (.s 1))⟩, [0, 1, 2, 3, 4, 5, 6, 7, 8, 9, 10, 11, 12, 13, 14], [1]⟩, ⟨⟨(some 32), none, (.mov (.s 10))⟩, [0, 1, 2, 3, 4, 5, 6, 7, 8, 9, 10, 11, 12, 13, 14, 15], [10]⟩, ⟨⟨(some 33), none, (.bin .add (.s 31) (.s 32))⟩, [0, 1, 2, 3, 4, 5, 6, 7, 8, 9, 10, 11, 12, 13, 14], [31, 32]⟩, ⟨⟨(some 34), none, (.iadr none 1 (.s 30) (.s 33))⟩, [0, 1, 2, 3, 4, 5, 6, 7, 8, 9, 10, 11, 12, 13], [30, 33]⟩, ⟨⟨(some 35), none, (.load false 1 (.s 34))⟩, [0, 1, 2, 3, 4, 5, 6, 7, 8, 9, 10, 11, 12, 13], [34]⟩, ⟨⟨(some 36), none, (.iadr none 1 (.s 16) (.s 19))⟩, [4, 5, 6, 7], [16, 19]⟩, ⟨⟨none, none, (.store false 1 (.s 36) (.s 29))⟩, [4, 5, 6, 7], [36, 29]⟩, ⟨⟨(some 37), none, (.iadr none 1 (.s 20) (.s 23))⟩, [], [20, 23]⟩, ⟨⟨none, none, (.store false 1 (.s 37) (.s 35))⟩, [], [37, 35]⟩])) (.reg [⟨(some 14), none, (.mov (.s 10))⟩, ⟨(some 15), none, (.bin .add (.s 14) (.c (.int 1)))⟩, ⟨(some 10), none, (.mov (.s 15))⟩]))))))⟩
theorem p201 : prepF Try.prog 201 = some c201 := by kernel_rfl
end Go.Proofs.Ytfplalbognalkaa.Ab
/- Sorting rows that know their numbers: the plain law (a stable sort). -/
namespace Go.Proofs.Ytfplalbognalkaa.Ab.NS
open Go
/-- A row and its number. -/
abbrev Row := Nat × Ab.Row
abbrev r0 : Row := (0, [])
def rcmp (a b : Row) : Int := Ab.rcmp a.2 b.2
def Cl (r : Row) : Prop := Ab.Cl r.2
theorem rcmp_neg (l m : Row) : rcmp l m = -rcmp m l := Ab.rcmp_neg _ _
theorem rcmp_trans {l m n : Row} (h1 : rcmp l m ≤ 0) (h2 : rcmp m n ≤ 0) : rcmp l n ≤ 0 := Ab.rcmp_trans h1 h2
/-- Before, and of equal ones the one with the smaller number. -/
def le (a b : Row) : Prop := rcmp a b < 0 ∨ (rcmp a b = 0 ∧ a.1 ≤ b.1)
instance (a b : Row) : Decidable (le a b) := by unfold le; infer_instance
theorem le.cmp {a b : Row} (h : le a b) : rcmp a b ≤ 0 := by rcases h with h | h <;> omega
theorem le_trans {a b c : Row} (h1 : le a b) (h2 : le b c) : le a c := by
  have h3 := rcmp_trans h1.cmp h2.cmp
  have n1 := rcmp_neg a c
  have n2 := rcmp_neg a b
  have n3 := rcmp_neg b c
  by_cases q : rcmp a c = 0
  · have e1 : rcmp b a ≤ 0 := rcmp_trans h2.cmp (show rcmp c a ≤ 0 by omega)
    have e2 : rcmp c b ≤ 0 := rcmp_trans (show rcmp c a ≤ 0 by omega) h1.cmp
    refine .inr ⟨q, ?_⟩
    rcases h1 with h1 | h1 <;> rcases h2 with h2 | h2 <;> omega
  · exact .inl (by omega)
def leR (a b : Row) : Bool := decide (le a b)
theorem leR_trans (a b c : Row) (h1 : leR a b = true) (h2 : leR b c = true) : leR a c = true := by
  simp only [leR, decide_eq_true_eq] at *
  exact le_trans h1 h2
theorem leR_total (a b : Row) : (leR a b || leR b a) = true := by
  have n1 := rcmp_neg a b
  simp only [leR, Bool.or_eq_true, decide_eq_true_eq]
  rcases Int.lt_trichotomy (rcmp a b) 0 with q | q | q
  · exact .inl (.inl q)
  · rcases Nat.le_total a.1 b.1 with p | p
    · exact .inl (.inr ⟨q, p⟩)
    · exact .inr (.inr ⟨by omega, p⟩)
  · exact .inr (.inl (by omega))
/-- Sorted. -/
def Srt (l : List Row) : Prop := l.Pairwise le
/-- Of equal ones the one with the smaller number stands first. -/
def Stb (l : List Row) : Prop := l.Pairwise fun a b => rcmp a b = 0 → a.1 ≤ b.1
theorem Srt.stb {l : List Row} (h : Srt l) : Stb l := h.imp fun h e => by rcases h with h | h <;> omega
def srt (l : List Row) : List Row := l.mergeSort leR
theorem srt_perm (l : List Row) : (srt l).Perm l := List.mergeSort_perm l leR
theorem srt_srt (l : List Row) : Srt (srt l) := by
  have := List.pairwise_mergeSort (le := leR) leR_trans leR_total l
  unfold Srt srt
  refine this.imp fun h => ?_
  simpa [leR] using h
theorem srt_len (l : List Row) : (srt l).length = l.length := (srt_perm l).length_eq
theorem le_anti {a b : Row} (ha : Cl a) (hb : Cl b) (h1 : le a b) (h2 : le b a) : a = b := by
  have := rcmp_neg a b
  have e : rcmp a b = 0 := by rcases h1 with h1 | h1 <;> rcases h2 with h2 | h2 <;> omega
  exact Prod.ext (by rcases h1 with h1 | h1 <;> rcases h2 with h2 | h2 <;> omega) (rcmp_eq ha hb e)
theorem srt_unique {X Y : List Row} (hc : ∀ r ∈ X, Cl r) (hp : Y.Perm X) (hs : Srt Y) : Y = srt X :=
  List.Perm.eq_of_pairwise (le := le) (fun a b ha hb h1 h2 => le_anti (hc a (hp.mem_iff.1 ha)) (hc b ((srt_perm X).mem_iff.1 hb)) h1 h2) hs (srt_srt X) (hp.trans (srt_perm X).symm)
theorem srt_cl {X : List Row} (hc : ∀ r ∈ X, Cl r) : ∀ r ∈ srt X, Cl r := fun r h => hc r ((srt_perm X).mem_iff.1 h)
/-- Not behind, and with a smaller number among equals: before. -/
theorem le_of {a b : Row} (h : ¬ rcmp b a < 0) (hst : rcmp a b = 0 → a.1 ≤ b.1) : le a b := by
  have := rcmp_neg a b
  by_cases q : rcmp a b = 0
  · exact .inr ⟨q, hst q⟩
  · exact .inl (by omega)
/-- An element finds its place. -/
theorem srt_insert {X L R : List Row} {x : Row} (hc : ∀ r ∈ X ++ [x], Cl r) (hst : Stb (X ++ [x])) (h : L ++ R = srt X) (hR : ∀ r ∈ R, rcmp x r < 0) (hL : ∀ y, L.getLast? = some y → ¬ rcmp x y < 0) : L ++ x :: R = srt (X ++ [x]) := by
  have hs : Srt (L ++ R) := by rw [h]; exact srt_srt X
  have hsp := List.pairwise_append.1 hs
  refine srt_unique hc ?_ ?_
  · have p1 : (L ++ x :: R).Perm (x :: (L ++ R)) := List.perm_middle
    refine p1.trans ?_
    rw [h]
    exact ((srt_perm X).cons x).trans (List.perm_append_singleton x X).symm
  · have hLx : ∀ a ∈ L, le a x := fun a ha => by
      rcases List.eq_nil_or_concat L with rfl | ⟨L', y, rfl⟩
      · cases ha
      · rw [List.concat_eq_append] at ha hL hsp h
        have hy : y ∈ X := (srt_perm X).mem_iff.1 (by rw [← h]; simp)
        have h3 : le y x := le_of (hL y (by simp)) ((List.pairwise_append.1 hst).2.2 y hy x (by simp))
        rcases List.mem_append.1 ha with ha | ha
        · have := (List.pairwise_append.1 hsp.1).2.2 a ha y (by simp)
          exact le_trans this h3
        · simp at ha; subst ha; exact h3
    refine List.pairwise_append.2 ⟨hsp.1, List.pairwise_cons.2 ⟨fun r hr => .inl (hR r hr), hsp.2.1⟩, fun a ha b hb => ?_⟩
    rcases List.mem_cons.1 hb with rfl | hb
    · exact hLx a ha
    · exact hsp.2.2 a ha b hb
/-- The cells of rows. -/
abbrev rowD (r : Row) : D := .e (.fs r.1 (r.2.map vr))
def dsR (c : List Row) : List D := c.map rowD
theorem dsR_len (c : List Row) : (dsR c).length = c.length := by simp [dsR]
theorem dsR_app (a b : List Row) : dsR (a ++ b) = dsR a ++ dsR b := by simp [dsR]
theorem dsR_ren (t : RF) (c : List Row) : rens t (dsR c) = dsR c := by
  induction c with
  | nil => rfl
  | cons r c ih => show rowD r :: rens t (dsR c) = _; rw [ih]; rfl
theorem dsR_lt (m : Nat) (c : List Row) : lts m (dsR c) = true := by
  induction c with
  | nil => rfl
  | cons r c ih => show (true && lts m (dsR c)) = true; rw [ih]; rfl
theorem dsR_get {c : List Row} {ds : List D} {off : Nat} {d : D} (hd : ds = dsR c) (ho : off < c.length) (h : d = ds.getD off default) : d = rowD (c.getD off r0) := by
  subst hd
  rw [h]
  simp [dsR, List.getD, ho]
theorem dsR_set {c : List Row} {ds ds' : List D} {off : Nat} {r : Row} (hd : ds = dsR c) (ho : off < c.length) (h : ds' = ds.take off ++ [rowD r] ++ ds.drop (off + 1)) : ds' = dsR (c.set off r) := by
  subst hd
  rw [h, dsR, dsR, List.map_set, List.set_eq_take_append_cons_drop, if_pos (by simpa using ho)]
  simp
end Go.Proofs.Ytfplalbognalkaa.Ab.NS
/- Sorting: insertion. -/
namespace Go.Proofs.Ytfplalbognalkaa.Ab.NS
open Go
abbrev cmpD : D := .fn (.func 13) [] []
theorem plain_sub {P : Program} {fn : FuncId} {args ds : List D} {d : D} (h : Plain P fn args d) (hl : ds.length = args.length) (hs : ∀ (j : Nat) a b, ds[j]? = some a → args[j]? = some b → Sub a b) : Plain P fn ds d := by
  intro w G vs hi hv hr
  refine h w G vs hi (by rw [hv, hl]) fun j v b hj hb => ?_
  have hjl : j < ds.length := by rw [hl]; exact (List.getElem?_eq_some_iff.1 hb).1
  exact hs j _ b (List.getElem?_eq_getElem hjl) hb _ _ _ _ (hr j v _ hj (List.getElem?_eq_getElem hjl))
theorem sub_fs {i : Nat} {es : List (List E)} : Sub (.e (.fs i es)) (.e (.sl es)) := fun _ _ _ _ r => .e (rv_e r).unfs
theorem cmpN (x y : Row) (xs ys : List (List E)) (hx : xs = x.2.map vr) (hy : ys = y.2.map vr) : Plain Try.prog 13 [.e (.fs x.1 xs), .e (.fs y.1 ys)] (.int (rcmp x y)) :=
  plain_sub (ok13 x.2 y.2 xs ys hx hy) rfl fun j a b h1 h2 => by
    rcases j with _ | _ | j
    · cases h1; cases h2; exact sub_fs
    · cases h1; cases h2; exact sub_fs
    · simp at h1
/-- A step of the sort: rows are written in place. -/
abbrev SP (fn : FuncId) (ints : List D) (c c' : List Row) : Prop := ∀ bb, Proc Try.prog fn (fun t => .vec (t 0) c.length 1 :: (ints ++ [cmpD])) (fun _ => [.vec bb 1 (dsR c)]) (fun _ => .tup []) (fun _ => [.vec bb 1 (dsR c')])
theorem sp_side {args : List D} {bb : Bool} {n : Nat} {c c' : List Row} (ha : ∀ t, rens t args = args) (hl : ∀ m, lts m args = true) : Side (fun t => .vec (t 0) n 1 :: args) (fun _ => [.vec bb 1 (dsR c)]) (fun _ => .tup []) (fun _ => [.vec bb 1 (dsR c')]) :=
  ⟨fun t => by simp [rens, D.ren, ha], by simp [lts, D.lt, hl], fun t => by simp [O.ren, dsR_ren], by intro o ho; simp at ho; subst ho; simp [O.lt, dsR_lt], fun t => rfl, fun t => by simp [O.ren, dsR_ren], by simp⟩
theorem sp_fin {A : Ar} (hA : A.Ok) {bb : Bool} {c' : List Row} {l0 : List O} {dsF : List D} (hF : dsF = dsR c') (hl : l0.length = 1) {d' : D} {l' : List O} {ds : List D} (h0 : hpF l' 0 = .vec bb 1 ds) (hd : ds = dsF) (h1 : .tup [] = d') : A.finv l0 l' d' [.vec bb 1 dsF] (.tup []) := by
  subst hd
  subst hF
  exact hA.finv _ _ _ _ _ (FinV.ren [0] (fun _ => [.vec bb 1 (dsR c')]) (fun _ => .tup []) (by rw [hl]; rfl) (.inl h1) ⟨h0, trivial⟩ (fun t => rfl) rfl (fun t => by simp [O.ren, dsR_ren]) (by intro o ho; simp at ho; subst ho; simp [O.lt, dsR_lt]))
theorem f28ok {Pr : Program} (hP : Pr = Try.prog) : ∃ func, Pr.funcs[13]? = some func ∧ ¬func.name = "runtime.NumGoroutine" ∧ func.body.isNone = false := by
  subst hP
  exact ⟨_, Try.func13, by decide, rfl⟩
theorem swap_adj (A B : List Row) (y x : Row) : ((A ++ y :: x :: B).set (A.length + 1) y).set A.length x = A ++ x :: y :: B := by
  rw [List.set_append_right _ _ (by omega), show A.length + 1 - A.length = 1 by omega, List.set_append_right _ _ (by omega), Nat.sub_self]
  rfl
theorem get_mid (A B : List Row) (x : Row) {n : Nat} (h : n = A.length) : (A ++ x :: B).getD n r0 = x := by subst h; simp
set_option maxRecDepth 100000 in
set_option maxHeartbeats 4000000 in
theorem ok190 (P X S : List Row) (hc : ∀ r ∈ X, Cl r) (hst : Stb X) (hlen : (P ++ X ++ S).length ≤ 2147483648) {a b : Int} (ha : a = P.length) (hb : b = P.length + X.length) : SP 190 [.int a, .int b] (P ++ X ++ S) (P ++ srt X ++ S) := by
  intro bb
  refine procOf mixed p190 (sp_side (fun _ => rfl) fun _ => rfl) fun A Pr hA hP => ?_
  obtain ⟨n, hn⟩ : ∃ n, n = (P ++ X ++ S).length := ⟨_, rfl⟩
  obtain ⟨ds0, hds0⟩ : ∃ ds, ds = dsR (P ++ X ++ S) := ⟨_, rfl⟩
  obtain ⟨R0, hR0⟩ : ∃ R, R = P ++ srt X ++ S := ⟨_, rfl⟩
  obtain ⟨dsF, hdsF⟩ : ∃ ds, ds = dsR R0 := ⟨_, rfl⟩
  have hnl : n = P.length + X.length + S.length := by rw [hn]; simp; omega
  rw [← hn, ← hds0, ← hR0, ← hdsF]
  cbv
  repeat' first | with_reducible rfl | with_reducible refine And.intro ?_ ?_ | ((with_reducible intro hcc); first | (cases hcc; done) | skip) | ((with_reducible first | show goC _ _ _ _ _ _ _ _ | show goOps _ _ _ _ _ | show goD _ _ _ _ _ _); cbv) | ((with_reducible show okWr _ _ = _); rfl) | ((with_reducible first | refine hA.fin_pl _ _ _ ?_ | refine hA.off _ _ _ _ fun b hb => ?_ | refine hA.gb0 true _ ?_ | refine hA.gb0 false _ ?_ | refine hA.gb _ _ fun vb hvb => ?_); cbv) | ((with_reducible first | refine hA.st _ _ _ _ _ ⟨?_, fun ds hds => ?_⟩ | refine hA.sapp _ _ _ ⟨?_, fun sl hsl => ?_⟩); rotate_left; cbv) | (simp only [hA.lits]; cbv)
  all_goals try simp only [hA.ar, inR, n_cast, Int.ofNat_eq_natCast, Option.getD_some, Option.getD_none] at *
  · omega
  refine hA.loopI (fun m s => ∃ (k : Nat) (C : List Row) (ds : List D), 1 ≤ k ∧ (k ≤ X.length ∨ k = 1) ∧ m = X.length - k ∧ C = P ++ (srt (X.take k) ++ (X.drop k ++ S)) ∧ ds = dsR C ∧ s = ⟨[(8, .int (a + k)), (0, .vec 0 n 1), (1, .int a), (2, .int b), (3, cmpD)], [.vec bb 1 ds]⟩) (X.length - 1) _
    (Weak.keep (env' := [(8, .int (a + ((1 : Nat) : Int))), (0, .vec 0 n 1), (1, .int a), (2, .int b), (3, cmpD)]) ⟨rfl, rfl, rfl, rfl, rfl, trivial⟩) ⟨1, P ++ X ++ S, ds0, by omega, .inr rfl, rfl, ?_, hds0, rfl⟩ ?_
  · have e : srt (X.take 1) = X.take 1 := by
      cases X with
      | nil => exact List.mergeSort_nil
      | cons x X => exact List.mergeSort_singleton x
    rw [e, ← List.append_assoc (X.take 1), List.take_append_drop, List.append_assoc]
  rintro m s K ⟨k, C, ds1, h0, h1, h2, hC, hd1, rfl⟩ hK
  by_cases hk : k < X.length
  case neg =>
    have e : C = R0 := by rw [hC, hR0, List.take_of_length_le (by omega), List.drop_eq_nil_of_le (by omega)]; simp
    obtain ⟨i, hi⟩ : ∃ i : Int, i = a + k := ⟨_, rfl⟩
    rw [← hi]
    have e2 : A.lt i b = false := by rw [hA.lt]; exact decide_eq_false (by omega)
    cbv
    repeat' first | with_reducible rfl | (simp only [e2]; cbv) | with_reducible refine And.intro ?_ ?_ | ((with_reducible intro hcc); first | (cases hcc; done) | skip) | ((with_reducible first | show goC _ _ _ _ _ _ _ _ | show goOps _ _ _ _ _ | show goD _ _ _ _ _ _); cbv) | ((with_reducible show okWr _ _ = _); rfl) | ((with_reducible first | refine hA.fin_pl _ _ _ ?_ | refine hA.off _ _ _ _ fun b hb => ?_ | refine hA.gb0 true _ ?_ | refine hA.gb0 false _ ?_ | refine hA.gb _ _ fun vb hvb => ?_); cbv) | ((with_reducible first | refine hA.st _ _ _ _ _ ⟨?_, fun ds hds => ?_⟩ | refine hA.sapp _ _ _ ⟨?_, fun sl hsl => ?_⟩); rotate_left; cbv) | (simp only [hA.lits]; cbv)
    all_goals try simp only [hA.ar, inR, n_cast, Int.ofNat_eq_natCast, Option.getD_some, Option.getD_none] at *
    all_goals exact sp_fin hA hdsF rfl rfl (by rw [hd1, e, hdsF]) rfl
  obtain ⟨x, Z, hx, hZ⟩ : ∃ x Z, X.drop k = x :: Z ∧ X.take (k + 1) = X.take k ++ [x] := ⟨X[k], X.drop (k + 1), List.drop_eq_getElem_cons hk, by rw [List.take_add_one]; simp [hk]⟩
  have hZ1 : X.drop (k + 1) = Z := by have := congrArg List.tail hx; rwa [List.tail_drop] at this
  have hcx : ∀ r ∈ X.take k ++ [x], Cl r := fun r hr => hc r (by rw [← hZ] at hr; exact List.mem_of_mem_take hr)
  have hsx : Stb (X.take k ++ [x]) := by rw [← hZ]; exact List.Pairwise.sublist (List.take_sublist _ _) hst
  obtain ⟨Y, hY⟩ : ∃ Y, Y = srt (X.take k) := ⟨_, rfl⟩
  have hYl : Y.length = k := by rw [hY, srt_len, List.length_take]; omega
  have hxl : X.length = k + 1 + Z.length := by have := congrArg List.length hx; simp at this; omega
  rw [← hY, hx] at hC
  obtain ⟨i, hi⟩ : ∃ i : Int, i = a + k := ⟨_, rfl⟩
  rw [← hi]
  have e2 : A.lt i b = true := by rw [hA.lt]; exact decide_eq_true (by omega)
  obtain ⟨xs, hxs⟩ : ∃ xs, xs = x.2.map vr := ⟨_, rfl⟩
  have hK2 : ∀ (L R : List Row) (ds2 : List D) (env : List (Nat × D)), L ++ R = Y → (∀ r ∈ R, rcmp x r < 0) → (∀ y, L.getLast? = some y → ¬ rcmp x y < 0) → ds2 = dsR (P ++ (L ++ x :: (R ++ (Z ++ S)))) →
      subL [(8, .int (i + 1)), (0, .vec 0 n 1), (1, .int a), (2, .int b), (3, cmpD)] env → K ⟨env, [.vec bb 1 ds2]⟩ := fun L R ds2 env q1 q2 q3 q4 q5 => by
    refine hK _ (X.length - (k + 1)) _ (by omega) (Weak.keep q5) ⟨k + 1, _, ds2, by omega, by omega, rfl, rfl, ?_, ?_⟩
    · rw [q4, hZ, hZ1, ← srt_insert hcx hsx (q1.trans hY) q2 q3]
      simp
    · rw [show i + 1 = a + ((k + 1 : Nat) : Int) by omega]
  clear hK
  cbv
  repeat' first | with_reducible rfl | (simp only [e2]; cbv) | with_reducible refine And.intro ?_ ?_ | ((with_reducible intro hcc); first | (cases hcc; done) | skip) | ((with_reducible first | show goC _ _ _ _ _ _ _ _ | show goOps _ _ _ _ _ | show goD _ _ _ _ _ _); cbv) | ((with_reducible show okWr _ _ = _); rfl) | ((with_reducible first | refine hA.fin_pl _ _ _ ?_ | refine hA.off _ _ _ _ fun b hb => ?_ | refine hA.gb0 true _ ?_ | refine hA.gb0 false _ ?_ | refine hA.gb _ _ fun vb hvb => ?_); cbv) | ((with_reducible first | refine hA.st _ _ _ _ _ ⟨?_, fun ds hds => ?_⟩ | refine hA.sapp _ _ _ ⟨?_, fun sl hsl => ?_⟩); rotate_left; cbv) | (simp only [hA.lits]; cbv)
  all_goals try simp only [hA.ar, inR, n_cast, Int.ofNat_eq_natCast, Option.getD_some, Option.getD_none] at *
  refine hA.loopI (fun m s => ∃ (j : Int) (L R : List Row) (ds : List D), j = a + L.length ∧ m = L.length ∧ L ++ R = Y ∧ (∀ r ∈ R, rcmp x r < 0) ∧ ds = dsR (P ++ (L ++ x :: (R ++ (Z ++ S)))) ∧ s = ⟨[(9, .int j), (8, .int i), (0, .vec 0 n 1), (1, .int a), (2, .int b), (3, cmpD)], [.vec bb 1 ds]⟩) k _
    (Weak.keep (env' := [(9, .int i), (8, .int i), (0, .vec 0 n 1), (1, .int a), (2, .int b), (3, cmpD)]) ⟨rfl, rfl, rfl, rfl, rfl, rfl, trivial⟩) ⟨i, Y, [], ds1, by omega, hYl.symm, by simp, (fun r hr => by cases hr), by rw [hd1, hC]; simp, rfl⟩ ?_
  rintro m2 s K' ⟨j, L, R, dsL, g0, g1, g2, g3, g4, rfl⟩ hK
  have hLR : L.length + R.length = k := by have := congrArg List.length g2; rw [List.length_append] at this; omega
  have hdl : dsL.length = n := by rw [g4, dsR_len, hnl]; simp; omega
  rcases List.eq_nil_or_concat L with rfl | ⟨L', y, rfl⟩
  · have e3 : A.lt a j = false := by rw [hA.lt]; exact decide_eq_false (by simp at g0; omega)
    cbv
    repeat' first | with_reducible rfl | (simp only [e3]; cbv) | with_reducible refine And.intro ?_ ?_ | ((with_reducible intro hcc); first | (cases hcc; done) | skip) | ((with_reducible first | show goC _ _ _ _ _ _ _ _ | show goOps _ _ _ _ _ | show goD _ _ _ _ _ _); cbv) | ((with_reducible show okWr _ _ = _); rfl) | ((with_reducible show A.call _ _ _ _ false _ _ _ _); refine callK_no hA (.int 0) ?_; cbv) | ((with_reducible refine hA.ld1 _ _ _ ⟨?_, fun c hc => ?_⟩); rotate_left; cbv) | ((with_reducible first | refine hA.fin_pl _ _ _ ?_ | refine hA.off _ _ _ _ fun b hb => ?_ | refine hA.gb0 true _ ?_ | refine hA.gb0 false _ ?_ | refine hA.gb _ _ fun vb hvb => ?_); cbv) | ((with_reducible first | refine hA.st _ _ _ _ _ ⟨?_, fun ds hds => ?_⟩ | refine hA.sapp _ _ _ ⟨?_, fun sl hsl => ?_⟩); rotate_left; cbv) | (simp only [hA.lits]; cbv)
    all_goals try simp only [hA.ar, inR, n_cast, Int.ofNat_eq_natCast, Option.getD_some, Option.getD_none] at *
    all_goals first
      | omega
      | exact f28ok hP
      | exact hK2 [] R dsL _ g2 g3 (by simp) g4 ⟨rfl, rfl, rfl, rfl, rfl, trivial⟩
      | (simp at g0; omega)
      | (trace_state; fail)
  · rw [List.concat_eq_append] at g0 g1 g2 g4 hLR
    have e3 : A.lt a j = true := by rw [hA.lt]; exact decide_eq_true (by simp at g0; omega)
    obtain ⟨ys, hys⟩ : ∃ ys, ys = y.2.map vr := ⟨_, rfl⟩
    obtain ⟨r, hr⟩ : ∃ r, r = rcmp x y := ⟨_, rfl⟩
    have h28 : Plain Try.prog 13 [.e (.fs x.1 xs), .e (.fs y.1 ys)] (.int r) := by rw [hr]; exact cmpN x y xs ys hxs hys
    have hL1 : (L' ++ [y]).length = L'.length + 1 := by simp
    obtain ⟨CL, hCL⟩ : ∃ CL, CL = P ++ (L' ++ [y] ++ x :: (R ++ (Z ++ S))) := ⟨_, rfl⟩
    have hCLl : CL.length = n := by rw [hCL, hnl]; simp; omega
    rw [← hCL] at g4
    have gx : ∀ o : Nat, o = P.length + L'.length + 1 → CL.getD o r0 = x := fun o h => by
      rw [hCL, show P ++ (L' ++ [y] ++ x :: (R ++ (Z ++ S))) = (P ++ (L' ++ [y])) ++ x :: (R ++ (Z ++ S)) by simp]
      exact get_mid _ _ _ (by simp; omega)
    have gy : ∀ o : Nat, o = P.length + L'.length → CL.getD o r0 = y := fun o h => by
      rw [hCL, show P ++ (L' ++ [y] ++ x :: (R ++ (Z ++ S))) = (P ++ L') ++ y :: (x :: (R ++ (Z ++ S))) by simp]
      exact get_mid _ _ _ (by simp; omega)
    have hj : j = P.length + L'.length + 1 := by rw [g0, ha, hL1]; omega
    have ldx : ∀ {b : Nat} {c : D}, b = 0 + j.toNat * 1 → c = dsL.getD b default → c = .e (.fs x.1 xs) := fun {b c} q1 q2 => by rw [dsR_get g4 (by omega) q2, hxs, gx _ (by omega)]
    have ldy : ∀ {b : Nat} {c : D}, b = 0 + (A.sub j 1).toNat * 1 → c = dsL.getD b default → c = .e (.fs y.1 ys) := fun {b c} q1 q2 => by rw [hA.sub] at q1; rw [dsR_get g4 (by omega) q2, hys, gy _ (by omega)]
    have hK3 : ∀ (u v : Nat) (ds1 ds2 : List D) (env : List (Nat × D)), u = 0 + j.toNat * 1 → v = 0 + (j - 1).toNat * 1 → rcmp x y < 0 → ds1 = dsL.take u ++ [.e (.fs y.1 ys)] ++ dsL.drop (u + 1) → ds2 = ds1.take v ++ [.e (.fs x.1 xs)] ++ ds1.drop (v + 1) →
        subL [(9, .int (j - 1)), (8, .int i), (0, .vec 0 n 1), (1, .int a), (2, .int b), (3, cmpD)] env → K' ⟨env, [.vec bb 1 ds2]⟩ := fun u v ds1 ds2 env q1 q2 q3 q4 q5 q6 => by
      rw [hys] at q4
      rw [hxs] at q5
      have d1 := dsR_set g4 (by omega) q4
      have d2 := dsR_set d1 (by rw [List.length_set]; omega) q5
      refine hK _ L'.length _ (by omega) (Weak.keep q6) ⟨j - 1, L', y :: R, ds2, by omega, rfl, by rw [← g2]; simp, fun r hr => ?_, ?_, rfl⟩
      · rcases List.mem_cons.1 hr with rfl | hr
        · exact q3
        · exact g3 r hr
      · rw [d2, show u = (P ++ L').length + 1 by simp; omega, show v = (P ++ L').length by simp; omega, hCL, show P ++ (L' ++ [y] ++ x :: (R ++ (Z ++ S))) = (P ++ L') ++ y :: x :: (R ++ (Z ++ S)) by simp, swap_adj]
        simp
    have hK4 : ∀ env : List (Nat × D), ¬ rcmp x y < 0 → subL [(8, .int (i + 1)), (0, .vec 0 n 1), (1, .int a), (2, .int b), (3, cmpD)] env → K ⟨env, [.vec bb 1 dsL]⟩ := fun env q1 q2 =>
      hK2 (L' ++ [y]) R dsL env g2 g3 (fun z hz => by simp at hz; subst hz; exact q1) (by rw [g4, hCL]) q2
    clear hC hc hcx hx hZ hZ1 hds0 hR0 hdsF hK hK2
    cbv
    repeat' first | with_reducible rfl | (simp only [e3]; cbv) | with_reducible refine And.intro ?_ ?_ | ((with_reducible intro hcc); first | (cases hcc; done) | skip) | ((with_reducible first | show goC _ _ _ _ _ _ _ _ | show goOps _ _ _ _ _ | show goD _ _ _ _ _ _); cbv) | ((with_reducible show okWr _ _ = _); rfl) | ((with_reducible first | refine callK_f hA hP h28 ?_ ?_ ?_); exact rfl; exact rfl; cbv) | ((with_reducible refine hA.ld1 _ _ _ ⟨?_, fun c hc => ?_⟩); rotate_left; first | ((have e9 := ldx hb hc); subst e9; cbv) | ((have e9 := ldy hb hc); subst e9; cbv)) | ((with_reducible refine hA.st dsL _ _ _ _ ⟨?_, fun ds1 hds1 => ?_⟩); rotate_left; cbv) | ((with_reducible refine hA.st ds1 _ _ _ _ ⟨?_, fun ds2 hds2 => ?_⟩); rotate_left; cbv) | ((with_reducible first | refine hA.fin_pl _ _ _ ?_ | refine hA.off _ _ _ _ fun b hb => ?_ | refine hA.gb0 true _ ?_ | refine hA.gb0 false _ ?_ | refine hA.gb _ _ fun vb hvb => ?_); cbv) | ((with_reducible first | refine hA.st _ _ _ _ _ ⟨?_, fun ds hds => ?_⟩ | refine hA.sapp _ _ _ ⟨?_, fun sl hsl => ?_⟩); rotate_left; cbv) | (simp only [hA.lits]; cbv)
    all_goals try simp only [hA.ar, inR, n_cast, Int.ofNat_eq_natCast, Option.getD_some, Option.getD_none] at *
    all_goals first
      | omega
      | exact f28ok hP
      | (rw [hds1]; simp; omega)
      | exact hK3 _ _ ds1 ds2 _ (by omega) (by omega) (by have q0 : vb = true := (by assumption); have q := hvb.symm.trans q0; rw [← hr]; exact of_decide_eq_true q) hds1 hds2 ⟨rfl, rfl, rfl, rfl, rfl, rfl, trivial⟩
      | exact hK4 _ (by have q0 : vb = false := (by assumption); have q := hvb.symm.trans q0; rw [← hr]; exact of_decide_eq_false q) ⟨rfl, rfl, rfl, rfl, rfl, trivial⟩
      | (trace_state; fail)
end Go.Proofs.Ytfplalbognalkaa.Ab.NS
/- Sorting: stretches changed about. -/
namespace Go.Proofs.Ytfplalbognalkaa.Ab.NS
open Go
theorem swap_gen (U W T : List Row) (x y : Row) : ((U ++ x :: (W ++ y :: T)).set U.length y).set (U.length + 1 + W.length) x = U ++ y :: (W ++ x :: T) := by
  rw [List.set_append_right _ _ (by omega), Nat.sub_self, List.set_append_right _ _ (by omega)]
  congr 1
  rw [show U.length + 1 + W.length - U.length = W.length + 1 by omega]
  simp
set_option maxRecDepth 100000 in
set_option maxHeartbeats 4000000 in
theorem ok201 (P A0 M B S : List Row) (hAB : A0.length = B.length) (hlen : (P ++ (A0 ++ (M ++ (B ++ S)))).length ≤ 2147483648) {a b m0 : Int} (ha : a = P.length) (hb : b = P.length + A0.length + M.length) (hm : m0 = A0.length) : SP 201 [.int a, .int b, .int m0] (P ++ (A0 ++ (M ++ (B ++ S)))) (P ++ (B ++ (M ++ (A0 ++ S)))) := by
  intro bb
  refine procOf mixed p201 (sp_side (fun _ => rfl) fun _ => rfl) fun A Pr hA hP => ?_
  obtain ⟨n, hn⟩ : ∃ n, n = (P ++ (A0 ++ (M ++ (B ++ S)))).length := ⟨_, rfl⟩
  obtain ⟨ds0, hds0⟩ : ∃ ds, ds = dsR (P ++ (A0 ++ (M ++ (B ++ S)))) := ⟨_, rfl⟩
  obtain ⟨R0, hR0⟩ : ∃ R, R = P ++ (B ++ (M ++ (A0 ++ S))) := ⟨_, rfl⟩
  obtain ⟨dsF, hdsF⟩ : ∃ ds, ds = dsR R0 := ⟨_, rfl⟩
  have hnl : n = P.length + A0.length + M.length + B.length + S.length := by rw [hn]; simp; omega
  rw [← hn, ← hds0, ← hR0, ← hdsF]
  cbv
  repeat' first | with_reducible rfl | with_reducible refine And.intro ?_ ?_ | ((with_reducible intro hcc); first | (cases hcc; done) | skip) | ((with_reducible first | show goC _ _ _ _ _ _ _ _ | show goOps _ _ _ _ _ | show goD _ _ _ _ _ _); cbv) | ((with_reducible show okWr _ _ = _); rfl) | ((with_reducible first | refine hA.fin_pl _ _ _ ?_ | refine hA.off _ _ _ _ fun b hb => ?_); cbv) | ((with_reducible first | refine hA.st _ _ _ _ _ ⟨?_, fun ds hds => ?_⟩ | refine hA.sapp _ _ _ ⟨?_, fun sl hsl => ?_⟩); rotate_left; cbv) | (simp only [hA.lits]; cbv)
  all_goals try simp only [hA.ar, inR, n_cast, Int.ofNat_eq_natCast, Option.getD_some, Option.getD_none] at *
  refine hA.loopI (fun mm s => ∃ (k : Nat) (i : Int) (ds : List D), i = k ∧ k ≤ A0.length ∧ mm = A0.length - k ∧ ds = dsR (P ++ (B.take k ++ (A0.drop k ++ (M ++ (A0.take k ++ (B.drop k ++ S)))))) ∧ s = ⟨[(10, .int i), (0, .vec 0 n 1), (1, .int a), (2, .int b), (3, .int m0), (4, cmpD)], [.vec bb 1 ds]⟩) A0.length _
    (Weak.keep (env' := [(10, .int 0), (0, .vec 0 n 1), (1, .int a), (2, .int b), (3, .int m0), (4, cmpD)]) ⟨rfl, rfl, rfl, rfl, rfl, rfl, trivial⟩) ⟨0, 0, ds0, rfl, by omega, rfl, by rw [hds0]; simp, rfl⟩ ?_
  rintro mm s K ⟨k, i, ds1, hi, hk, hmm, hd1, rfl⟩ hK
  rcases Nat.lt_or_ge k A0.length with hk2 | hk2
  · obtain ⟨x, A1, hx, hx2⟩ : ∃ x A1, A0.drop k = x :: A1 ∧ A0.take (k + 1) = A0.take k ++ [x] := ⟨A0[k], A0.drop (k + 1), List.drop_eq_getElem_cons hk2, by rw [List.take_add_one]; simp [hk2]⟩
    obtain ⟨y, B1, hy, hy2⟩ : ∃ x A1, B.drop k = x :: A1 ∧ B.take (k + 1) = B.take k ++ [x] := ⟨B[k]'(by omega), B.drop (k + 1), List.drop_eq_getElem_cons (by omega), by rw [List.take_add_one]; simp [show k < B.length by omega]⟩
    have hA1 : A0.drop (k + 1) = A1 := by have := congrArg List.tail hx; rwa [List.tail_drop] at this
    have hB1 : B.drop (k + 1) = B1 := by have := congrArg List.tail hy; rwa [List.tail_drop] at this
    obtain ⟨xs, hxs⟩ : ∃ xs, xs = x.2.map vr := ⟨_, rfl⟩
    obtain ⟨ys, hys⟩ : ∃ ys, ys = y.2.map vr := ⟨_, rfl⟩
    obtain ⟨CL, hCL⟩ : ∃ CL, CL = (P ++ B.take k) ++ x :: ((A1 ++ (M ++ A0.take k)) ++ y :: (B1 ++ S)) := ⟨_, rfl⟩
    have hl1 : A0.length = k + 1 + A1.length := by have := congrArg List.length hx; simp at this; omega
    have hl2 : B.length = k + 1 + B1.length := by have := congrArg List.length hy; simp at this; omega
    have hu : (P ++ B.take k).length = P.length + k := by simp; omega
    have hw : (A1 ++ (M ++ A0.take k)).length = A1.length + M.length + k := by simp; omega
    have hCLl : CL.length = n := by rw [hCL, List.length_append, hu, List.length_cons, List.length_append, hw, List.length_cons, List.length_append]; omega
    rw [hx, hy] at hd1
    have g4 : ds1 = dsR CL := by rw [hd1, hCL]; simp
    have gx : ∀ o : Nat, o = P.length + k → CL.getD o r0 = x := fun o h => by rw [hCL]; exact get_mid _ _ _ (by omega)
    have gy : ∀ o : Nat, o = P.length + A0.length + M.length + k → CL.getD o r0 = y := fun o h => by
      rw [hCL, show (P ++ B.take k) ++ x :: ((A1 ++ (M ++ A0.take k)) ++ y :: (B1 ++ S)) = ((P ++ B.take k) ++ x :: (A1 ++ (M ++ A0.take k))) ++ y :: (B1 ++ S) by simp]
      exact get_mid _ _ _ (by rw [List.length_append, hu, List.length_cons, hw]; omega)
    have ldx : ∀ {b : Nat} {c : D}, b = 0 + (A.add a i).toNat * 1 → c = ds1.getD b default → c = .e (.fs x.1 xs) := fun {b c} q1 q2 => by rw [hA.add] at q1; rw [dsR_get g4 (by omega) q2, hxs, gx _ (by omega)]
    have ldy : ∀ {c' : Nat} {c : D}, c' = 0 + (A.add b i).toNat * 1 → c = ds1.getD c' default → c = .e (.fs y.1 ys) := fun {b c} q1 q2 => by rw [hA.add] at q1; rw [dsR_get g4 (by omega) q2, hys, gy _ (by omega)]
    have hdl : ds1.length = n := by rw [g4, dsR_len, hCLl]
    have hK3 : ∀ (u v : Nat) (ds2 ds3 : List D) (env : List (Nat × D)), u = 0 + (a + i).toNat * 1 → v = 0 + (b + i).toNat * 1 → ds2 = ds1.take u ++ [.e (.fs y.1 ys)] ++ ds1.drop (u + 1) → ds3 = ds2.take v ++ [.e (.fs x.1 xs)] ++ ds2.drop (v + 1) →
        subL [(10, .int (i + 1)), (0, .vec 0 n 1), (1, .int a), (2, .int b), (3, .int m0), (4, cmpD)] env → K ⟨env, [.vec bb 1 ds3]⟩ := fun u v ds2 ds3 env q1 q2 q4 q5 q6 => by
      rw [hys] at q4
      rw [hxs] at q5
      have d1 := dsR_set g4 (by omega) q4
      have d2 := dsR_set d1 (by rw [List.length_set]; omega) q5
      refine hK _ (A0.length - (k + 1)) _ (by omega) (Weak.keep q6) ⟨k + 1, i + 1, ds3, by omega, by omega, rfl, ?_, rfl⟩
      rw [d2, show u = (P ++ B.take k).length by omega, show v = (P ++ B.take k).length + 1 + (A1 ++ (M ++ A0.take k)).length by omega, hCL, swap_gen, hx2, hy2, hA1, hB1]
      simp
    clear hd1 hK hx hy hx2 hy2 hA1 hB1
    cbv
    repeat' first | with_reducible rfl | with_reducible refine And.intro ?_ ?_ | ((with_reducible intro hcc); first | (cases hcc; done) | skip) | ((with_reducible first | show goC _ _ _ _ _ _ _ _ | show goOps _ _ _ _ _ | show goD _ _ _ _ _ _); cbv) | ((with_reducible show okWr _ _ = _); rfl) | ((with_reducible refine hA.ld1 _ _ _ ⟨?_, fun c hc => ?_⟩); rotate_left; first | ((have e9 := ldx hb hc); subst e9; cbv) | ((have e9 := ldy hb hc); subst e9; cbv)) | ((with_reducible refine hA.st ds1 _ _ _ _ ⟨?_, fun ds2 hds2 => ?_⟩); rotate_left; cbv) | ((with_reducible refine hA.st ds2 _ _ _ _ ⟨?_, fun ds3 hds3 => ?_⟩); rotate_left; cbv) | ((with_reducible first | refine hA.fin_pl _ _ _ ?_ | refine hA.off _ _ _ _ fun b hb => ?_); cbv) | ((with_reducible first | refine hA.st _ _ _ _ _ ⟨?_, fun ds hds => ?_⟩ | refine hA.sapp _ _ _ ⟨?_, fun sl hsl => ?_⟩); rotate_left; cbv) | (simp only [hA.lits]; cbv)
    all_goals try simp only [hA.ar, inR, n_cast, Int.ofNat_eq_natCast, Option.getD_some, Option.getD_none] at *
    all_goals first
      | omega
      | exact hK3 _ _ ds2 ds3 _ (by omega) (by omega) hds2 hds3 ⟨rfl, rfl, rfl, rfl, rfl, rfl, trivial⟩
      | (rw [hds2]; simp; omega)
      | (exfalso; simp only [decide_eq_false_iff_not] at *; omega)
      | (trace_state; fail)
  · have e : ds1 = dsF := by
      rw [hd1, hdsF, hR0, List.take_of_length_le (by omega), List.take_of_length_le (by omega), List.drop_eq_nil_of_le (by omega), List.drop_eq_nil_of_le (by omega)]
      simp
    have e2 : A.lt i m0 = false := by rw [hA.lt]; exact decide_eq_false (by omega)
    cbv
    repeat' first | with_reducible rfl | (simp only [e2]; cbv) | with_reducible refine And.intro ?_ ?_ | ((with_reducible intro hcc); first | (cases hcc; done) | skip) | ((with_reducible first | show goC _ _ _ _ _ _ _ _ | show goOps _ _ _ _ _ | show goD _ _ _ _ _ _); cbv) | ((with_reducible show okWr _ _ = _); rfl) | ((with_reducible first | refine hA.fin_pl _ _ _ ?_ | refine hA.off _ _ _ _ fun b hb => ?_); cbv) | ((with_reducible first | refine hA.st _ _ _ _ _ ⟨?_, fun ds hds => ?_⟩ | refine hA.sapp _ _ _ ⟨?_, fun sl hsl => ?_⟩); rotate_left; cbv) | (simp only [hA.lits]; cbv)
    all_goals try simp only [hA.ar, inR, n_cast, Int.ofNat_eq_natCast, Option.getD_some, Option.getD_none] at *
    all_goals exact sp_fin hA hdsF rfl rfl e rfl
end Go.Proofs.Ytfplalbognalkaa.Ab.NS
/- Sorting: two stretches turned. -/
namespace Go.Proofs.Ytfplalbognalkaa.Ab.NS
open Go
theorem sp_hide {fn : FuncId} {ints : List D} {c c' : List Row} (h : SP fn ints c c') {n : Nat} {ds ds' : List D} (hn : n = c.length) (hd : ds = dsR c) (hd' : ds' = dsR c') (bb : Bool) : Proc Try.prog fn (fun t => .vec (t 0) n 1 :: (ints ++ [cmpD])) (fun _ => [.vec bb 1 ds]) (fun _ => .tup []) (fun _ => [.vec bb 1 ds']) := by
  subst hn; subst hd; subst hd'; exact h bb
theorem split_at {A : List Row} {k : Nat} (h : k ≤ A.length) : ∃ A1 A2, A = A1 ++ A2 ∧ A1.length = k ∧ A2.length = A.length - k := ⟨A.take k, A.drop k, by simp, by simp; omega, by simp⟩
set_option maxRecDepth 100000 in
set_option maxHeartbeats 4000000 in
theorem ok200 (P A0 B S : List Row) (hA0 : 0 < A0.length) (hB0 : 0 < B.length) (hlen : (P ++ (A0 ++ (B ++ S))).length ≤ 2147483648) {a m0 b : Int} (ha : a = P.length) (hm : m0 = P.length + A0.length) (hb : b = P.length + A0.length + B.length) : SP 200 [.int a, .int m0, .int b] (P ++ (A0 ++ (B ++ S))) (P ++ (B ++ (A0 ++ S))) := by
  intro bb
  refine procOf mixed p200 (sp_side (fun _ => rfl) fun _ => rfl) fun A Pr hA hP => ?_
  obtain ⟨n, hn⟩ : ∃ n, n = (P ++ (A0 ++ (B ++ S))).length := ⟨_, rfl⟩
  obtain ⟨ds0, hds0⟩ : ∃ ds, ds = dsR (P ++ (A0 ++ (B ++ S))) := ⟨_, rfl⟩
  obtain ⟨R0, hR0⟩ : ∃ R, R = P ++ (B ++ (A0 ++ S)) := ⟨_, rfl⟩
  obtain ⟨dsF, hdsF⟩ : ∃ ds, ds = dsR R0 := ⟨_, rfl⟩
  have hnl : n = P.length + A0.length + B.length + S.length := by rw [hn]; simp; omega
  rw [← hn, ← hds0, ← hR0, ← hdsF]
  cbv
  repeat' first | with_reducible rfl | with_reducible refine And.intro ?_ ?_ | ((with_reducible intro hcc); first | (cases hcc; done) | skip) | ((with_reducible first | show goC _ _ _ _ _ _ _ _ | show goOps _ _ _ _ _ | show goD _ _ _ _ _ _); cbv) | ((with_reducible show okWr _ _ = _); rfl) | ((with_reducible first | refine hA.fin_pl _ _ _ ?_); cbv) | ((with_reducible first | refine hA.sapp _ _ _ ⟨?_, fun sl hsl => ?_⟩); rotate_left; cbv) | (simp only [hA.lits]; cbv)
  all_goals try simp only [hA.ar, inR, n_cast, Int.ofNat_eq_natCast, Option.getD_some, Option.getD_none] at *
  · omega
  · omega
  refine hA.loopI (fun mm s => ∃ (P' A' B' S' : List Row) (i j : Int) (ds : List D), i = A'.length ∧ j = B'.length ∧ 0 < A'.length ∧ 0 < B'.length ∧ mm = A'.length + B'.length ∧ m0 = P'.length + A'.length ∧ n = P'.length + A'.length + B'.length + S'.length ∧ R0 = P' ++ (B' ++ (A' ++ S')) ∧ ds = dsR (P' ++ (A' ++ (B' ++ S'))) ∧
      s = ⟨[(10, .int i), (11, .int j), (0, .vec 0 n 1), (1, .int a), (2, .int m0), (3, .int b), (4, cmpD)], [.vec bb 1 ds]⟩) (A0.length + B.length) _
    (Weak.keep (env' := [(10, .int (m0 - a)), (11, .int (b - m0)), (0, .vec 0 n 1), (1, .int a), (2, .int m0), (3, .int b), (4, cmpD)]) ⟨rfl, rfl, rfl, rfl, rfl, rfl, rfl, trivial⟩) ⟨P, A0, B, S, m0 - a, b - m0, ds0, by omega, by omega, hA0, hB0, rfl, hm, hnl, hR0, hds0, rfl⟩ ?_
  rintro mm s K ⟨P', A', B', S', i, j, ds1, hi, hj, h1, h2, h3, h4, h5, h6, hd1, rfl⟩ hK
  have hnn : n = (P' ++ (A' ++ (B' ++ S'))).length := by rw [h5]; simp; omega
  rcases Int.lt_trichotomy i j with hij | hij | hij
  · have e1 : A.eq i j = false := by rw [hA.eq]; exact decide_eq_false (by omega)
    have e2 : A.lt j i = false := by rw [hA.lt]; exact decide_eq_false (by omega)
    obtain ⟨B1, B2, rfl, q1, q2⟩ := split_at (A := B') (k := B'.length - A'.length) (by omega)
    rw [List.length_append] at *
    obtain ⟨ds2, hds2⟩ : ∃ ds2, ds2 = dsR (P' ++ (B2 ++ (B1 ++ (A' ++ S')))) := ⟨_, rfl⟩
    have h109 : ∀ u v w : Int, u = m0 - i → v = m0 + j - i → w = i → Proc Try.prog 201 (fun t => [.vec (t 0) n 1, .int u, .int v, .int w, cmpD]) (fun _ => [.vec bb 1 ds1]) (fun _ => .tup []) (fun _ => [.vec bb 1 ds2]) := fun u v w u1 v1 w1 =>
      sp_hide (ok201 P' A' B1 B2 S' (by omega) (by simp; omega) (by omega) (by omega) (by omega)) (by rw [h5]; simp; omega) (by rw [hd1]; simp) hds2 bb
    have hK2 : ∀ env : List (Nat × D), subL [(10, .int i), (11, .int (j - i)), (0, .vec 0 n 1), (1, .int a), (2, .int m0), (3, .int b), (4, cmpD)] env → K ⟨env, [.vec bb 1 ds2]⟩ := fun env q =>
      hK _ (B1.length + B2.length) _ (by omega) (Weak.keep q) ⟨P', B2, B1, A' ++ S', i, j - i, ds2, by omega, by omega, by omega, by omega, by omega, by omega, by simp; omega, by rw [h6]; simp, hds2, rfl⟩
    clear hK hd1 hds2 h6 hnn
    cbv
    repeat' first | with_reducible rfl | (simp only [e1, e2]; cbv) | with_reducible refine And.intro ?_ ?_ | ((with_reducible intro hcc); first | (cases hcc; done) | skip) | ((with_reducible first | show goC _ _ _ _ _ _ _ _ | show goOps _ _ _ _ _ | show goD _ _ _ _ _ _); cbv) | ((with_reducible show okWr _ _ = _); rfl) | ((with_reducible show A.call _ _ _ _ _ 201 _ _ _); have hc := h109 (A.sub m0 i) (A.sub (A.add m0 j) i) i (hA.sub _ _) (by rw [hA.sub, hA.add]) rfl; refine callK_pr hA hP [0] (by rfl) (by exact ⟨rfl, trivial⟩) (Wks.refl _) ?_ (fun _ _ => hc) hc.side; cbv) | ((with_reducible first | refine hA.fin_pl _ _ _ ?_); cbv) | ((with_reducible first | refine hA.sapp _ _ _ ⟨?_, fun sl hsl => ?_⟩); rotate_left; cbv) | (simp only [hA.lits]; cbv)
    all_goals try simp only [hA.ar, inR, n_cast, Int.ofNat_eq_natCast, Option.getD_some, Option.getD_none] at *
    all_goals first
      | omega
      | exact hK2 _ ⟨rfl, rfl, rfl, rfl, rfl, rfl, rfl, trivial⟩
      | (trace_state; fail)
  · have e1 : A.eq i j = true := by rw [hA.eq]; exact decide_eq_true (by omega)
    have h109 : ∀ u v w : Int, u = m0 - i → v = m0 → w = i → Proc Try.prog 201 (fun t => [.vec (t 0) n 1, .int u, .int v, .int w, cmpD]) (fun _ => [.vec bb 1 ds1]) (fun _ => .tup []) (fun _ => [.vec bb 1 dsF]) := fun u v w u1 v1 w1 =>
      sp_hide (ok201 P' A' [] B' S' (by omega) (by simp; omega) (by omega) (by simp; omega) (by omega)) (by rw [h5]; simp; omega) (by rw [hd1]; simp) (by rw [hdsF, h6]; simp) bb
    clear hK hd1 hnn
    cbv
    repeat' first | with_reducible rfl | (simp only [e1]; cbv) | with_reducible refine And.intro ?_ ?_ | ((with_reducible intro hcc); first | (cases hcc; done) | skip) | ((with_reducible first | show goC _ _ _ _ _ _ _ _ | show goOps _ _ _ _ _ | show goD _ _ _ _ _ _); cbv) | ((with_reducible show okWr _ _ = _); rfl) | ((with_reducible show A.call _ _ _ _ _ 201 _ _ _); have hc := h109 (A.sub m0 i) m0 i (hA.sub _ _) rfl rfl; refine callK_pr hA hP [0] (by rfl) (by exact ⟨rfl, trivial⟩) (Wks.refl _) ?_ (fun _ _ => hc) hc.side; cbv) | ((with_reducible first | refine hA.fin_pl _ _ _ ?_); cbv) | ((with_reducible first | refine hA.sapp _ _ _ ⟨?_, fun sl hsl => ?_⟩); rotate_left; cbv) | (simp only [hA.lits]; cbv)
    all_goals try simp only [hA.ar, inR, n_cast, Int.ofNat_eq_natCast, Option.getD_some, Option.getD_none] at *
    all_goals first
      | omega
      | exact sp_fin hA hdsF rfl rfl rfl rfl
      | (trace_state; fail)
  · have e1 : A.eq i j = false := by rw [hA.eq]; exact decide_eq_false (by omega)
    have e2 : A.lt j i = true := by rw [hA.lt]; exact decide_eq_true (by omega)
    obtain ⟨A1, A2, rfl, q1, q2⟩ := split_at (A := A') (k := B'.length) (by omega)
    rw [List.length_append] at *
    obtain ⟨ds2, hds2⟩ : ∃ ds2, ds2 = dsR (P' ++ (B' ++ (A2 ++ (A1 ++ S')))) := ⟨_, rfl⟩
    have h109 : ∀ u v w : Int, u = m0 - i → v = m0 → w = j → Proc Try.prog 201 (fun t => [.vec (t 0) n 1, .int u, .int v, .int w, cmpD]) (fun _ => [.vec bb 1 ds1]) (fun _ => .tup []) (fun _ => [.vec bb 1 ds2]) := fun u v w u1 v1 w1 =>
      sp_hide (ok201 P' A1 A2 B' S' (by omega) (by simp; omega) (by omega) (by omega) (by omega)) (by rw [h5]; simp; omega) (by rw [hd1]; simp) hds2 bb
    have hK2 : ∀ env : List (Nat × D), subL [(10, .int (i - j)), (11, .int j), (0, .vec 0 n 1), (1, .int a), (2, .int m0), (3, .int b), (4, cmpD)] env → K ⟨env, [.vec bb 1 ds2]⟩ := fun env q =>
      hK _ (A2.length + A1.length) _ (by omega) (Weak.keep q) ⟨P' ++ B', A2, A1, S', i - j, j, ds2, by omega, by omega, by omega, by omega, by omega, by simp; omega, by simp; omega, by rw [h6]; simp, by rw [hds2]; simp, rfl⟩
    clear hK hd1 hds2 h6 hnn
    cbv
    repeat' first | with_reducible rfl | (simp only [e1, e2]; cbv) | with_reducible refine And.intro ?_ ?_ | ((with_reducible intro hcc); first | (cases hcc; done) | skip) | ((with_reducible first | show goC _ _ _ _ _ _ _ _ | show goOps _ _ _ _ _ | show goD _ _ _ _ _ _); cbv) | ((with_reducible show okWr _ _ = _); rfl) | ((with_reducible show A.call _ _ _ _ _ 201 _ _ _); have hc := h109 (A.sub m0 i) m0 j (hA.sub _ _) rfl rfl; refine callK_pr hA hP [0] (by rfl) (by exact ⟨rfl, trivial⟩) (Wks.refl _) ?_ (fun _ _ => hc) hc.side; cbv) | ((with_reducible first | refine hA.fin_pl _ _ _ ?_); cbv) | ((with_reducible first | refine hA.sapp _ _ _ ⟨?_, fun sl hsl => ?_⟩); rotate_left; cbv) | (simp only [hA.lits]; cbv)
    all_goals try simp only [hA.ar, inR, n_cast, Int.ofNat_eq_natCast, Option.getD_some, Option.getD_none] at *
    all_goals first
      | omega
      | exact hK2 _ ⟨rfl, rfl, rfl, rfl, rfl, rfl, rfl, trivial⟩
      | (trace_state; fail)
end Go.Proofs.Ytfplalbognalkaa.Ab.NS
/- Sorting: one row put among sorted ones. -/
namespace Go.Proofs.Ytfplalbognalkaa.Ab.NS
open Go
theorem swap_adj2 (A B : List Row) (y x : Row) : ((A ++ x :: y :: B).set A.length y).set (A.length + 1) x = A ++ y :: x :: B := by
  have := swap_gen A [] B x y
  simpa using this
theorem srt_mid {X L R : List Row} {x : Row} (hc : ∀ r ∈ X, Cl r) (hp : (L ++ x :: R).Perm X) (hs : Srt (L ++ R)) (hL : ∀ r ∈ L, le r x) (hR : ∀ r ∈ R, le x r) : L ++ x :: R = srt X := by
  refine srt_unique hc hp ?_
  have hsp := List.pairwise_append.1 hs
  refine List.pairwise_append.2 ⟨hsp.1, List.pairwise_cons.2 ⟨hR, hsp.2.1⟩, fun a ha b hb => ?_⟩
  rcases List.mem_cons.1 hb with rfl | hb
  · exact hL a ha
  · exact hsp.2.2 a ha b hb
theorem srt_self {X : List Row} (hc : ∀ r ∈ X, Cl r) (hs : Srt X) : srt X = X := (srt_unique hc (List.Perm.refl X) hs).symm
theorem getD_app (A B : List Row) {o i : Nat} (h : o = A.length + i) : (A ++ B).getD o r0 = B.getD i r0 := by
  subst h
  simp only [List.getD]
  rw [List.getElem?_append_right (by omega), Nat.add_sub_cancel_left]
theorem getD_left (A B : List Row) {o : Nat} (h : o < A.length) : (A ++ B).getD o r0 = A.getD o r0 := by
  simp [List.getD, List.getElem?_append_left h]
theorem mem_take_getD {B : List Row} {u : Nat} {r : Row} (h : r ∈ B.take u) : ∃ t, t < u ∧ t < B.length ∧ B.getD t r0 = r := by
  obtain ⟨t, ht, e⟩ := List.getElem_of_mem h
  have h1 : t < u ∧ t < B.length := by simp at ht; omega
  refine ⟨t, h1.1, h1.2, ?_⟩
  rw [List.getElem_take] at e
  simp [List.getD, h1.2, e]
theorem mem_drop_getD {B : List Row} {u : Nat} {r : Row} (h : r ∈ B.drop u) : ∃ t, u ≤ t ∧ t < B.length ∧ B.getD t r0 = r := by
  obtain ⟨t, ht, e⟩ := List.getElem_of_mem h
  have h1 : u + t < B.length := by simp at ht; omega
  refine ⟨u + t, by omega, h1, ?_⟩
  rw [List.getElem_drop] at e
  simp [List.getD, h1, e]
theorem srt_get {B : List Row} (h : Srt B) {s t : Nat} (hs : s ≤ t) (ht : t < B.length) : rcmp (B.getD s r0) (B.getD t r0) ≤ 0 := by
  have h1 : s < B.length := by omega
  have e1 : B.getD s r0 = B[s] := by simp [List.getD, h1]
  have e2 : B.getD t r0 = B[t] := by simp [List.getD, ht]
  rw [e1, e2]
  rcases Nat.lt_or_ge s t with q | q
  · exact (List.pairwise_iff_getElem.1 h s t h1 ht q).cmp
  · have : s = t := by omega
    subst this
    have := rcmp_neg B[s] B[s]; omega
set_option maxRecDepth 100000 in
set_option maxHeartbeats 4000000 in
theorem ok191a (P B S : List Row) (x : Row) (hB0 : 0 < B.length) (hc : ∀ r ∈ x :: B, Cl r) (hst : ∀ r ∈ B, rcmp x r = 0 → x.1 ≤ r.1) (hsB : Srt B) (hlen : (P ++ (x :: (B ++ S))).length ≤ 2147483648) {a m0 b : Int} (ha : a = P.length) (hm : m0 = P.length + 1) (hb : b = P.length + 1 + B.length) :
    SP 191 [.int a, .int m0, .int b] (P ++ (x :: (B ++ S))) (P ++ (srt (x :: B) ++ S)) := by
  intro bb
  refine procOf mixed p191 (sp_side (fun _ => rfl) fun _ => rfl) fun A Pr hA hP => ?_
  obtain ⟨n, hn⟩ : ∃ n, n = (P ++ (x :: (B ++ S))).length := ⟨_, rfl⟩
  obtain ⟨C0, hC0⟩ : ∃ C, C = P ++ (x :: (B ++ S)) := ⟨_, rfl⟩
  obtain ⟨ds0, hds0⟩ : ∃ ds, ds = dsR C0 := ⟨_, rfl⟩
  obtain ⟨R0, hR0⟩ : ∃ R, R = P ++ (srt (x :: B) ++ S) := ⟨_, rfl⟩
  obtain ⟨dsF, hdsF⟩ : ∃ ds, ds = dsR R0 := ⟨_, rfl⟩
  have hnl : n = P.length + 1 + B.length + S.length := by rw [hn]; simp; omega
  have hCl : C0.length = n := by rw [hC0, hn]
  have hdl : ds0.length = n := by rw [hds0, dsR_len, hCl]
  rw [← hn, ← hC0, ← hds0, ← hR0, ← hdsF]
  have e1 : A.eq (A.sub m0 a) 1 = true := by rw [hA.eq, hA.sub]; exact decide_eq_true (by omega)
  obtain ⟨xs, hxs⟩ : ∃ xs, xs = x.2.map vr := ⟨_, rfl⟩
  have lda : ∀ {o : Nat} {c : D}, o = 0 + a.toNat * 1 → c = ds0.getD o default → c = .e (.fs x.1 xs) := fun {o c} q1 q2 => by
    rw [dsR_get hds0 (by omega) q2, hxs, hC0, get_mid _ _ _ (by omega)]
  cbv
  repeat' first | with_reducible rfl | (simp only [e1]; cbv) | with_reducible refine And.intro ?_ ?_ | ((with_reducible intro hcc); first | (cases hcc; done) | skip) | ((with_reducible first | show goC _ _ _ _ _ _ _ _ | show goOps _ _ _ _ _ | show goD _ _ _ _ _ _); cbv) | ((with_reducible show okWr _ _ = _); rfl) | ((with_reducible first | refine hA.fin_pl _ _ _ ?_ | refine hA.off _ _ _ _ fun b hb => ?_ | refine hA.gb0 true _ ?_ | refine hA.gb0 false _ ?_ | refine hA.gb _ _ fun vb hvb => ?_); cbv) | ((with_reducible first | refine hA.st _ _ _ _ _ ⟨?_, fun ds hds => ?_⟩ | refine hA.sapp _ _ _ ⟨?_, fun sl hsl => ?_⟩); rotate_left; cbv) | (simp only [hA.lits]; cbv)
  all_goals try simp only [hA.ar, inR, n_cast, Int.ofNat_eq_natCast, Option.getD_some, Option.getD_none] at *
  · omega
  refine hA.loopI (fun mm s => ∃ (u v : Nat) (i j : Int), i = m0 + u ∧ j = m0 + v ∧ u ≤ v ∧ v ≤ B.length ∧ mm = v - u ∧ (∀ t, t < u → rcmp (B.getD t r0) x < 0) ∧ (∀ t, v ≤ t → t < B.length → ¬ rcmp (B.getD t r0) x < 0) ∧
      s = ⟨[(10, .int i), (11, .int j), (0, .vec 0 n 1), (1, .int a), (2, .int m0), (3, .int b), (4, cmpD)], [.vec bb 1 ds0]⟩) B.length _
    (Weak.keep (env' := [(10, .int m0), (11, .int b), (0, .vec 0 n 1), (1, .int a), (2, .int m0), (3, .int b), (4, cmpD)]) ⟨rfl, rfl, rfl, rfl, rfl, rfl, rfl, trivial⟩) ⟨0, B.length, m0, b, by omega, by omega, by omega, by omega, by omega, fun t ht => by omega, fun t h1 h2 => by omega, rfl⟩ ?_
  rintro mm s K ⟨u, v, i, j, hi, hj, h1, h2, h3, h4, h5, rfl⟩ hK
  rcases Nat.lt_or_ge u v with huv | huv
  · have e2 : A.lt i j = true := by rw [hA.lt]; exact decide_eq_true (by omega)
    obtain ⟨h, hh⟩ : ∃ h : Nat, h = (u + v) / 2 + (if (m0 + m0) % 2 = 1 then 0 else 0) := ⟨_, rfl⟩
    obtain ⟨w, hw⟩ : ∃ w : Nat, (w : Int) = (i + j) / 2 - m0 := ⟨((i + j) / 2 - m0).toNat, by omega⟩
    obtain ⟨y, hy⟩ : ∃ y, y = B.getD w r0 := ⟨_, rfl⟩
    obtain ⟨ys, hys⟩ : ∃ ys, ys = y.2.map vr := ⟨_, rfl⟩
    obtain ⟨r, hr⟩ : ∃ r, r = rcmp y x := ⟨_, rfl⟩
    have h28 : Plain Try.prog 13 [.e (.fs y.1 ys), .e (.fs x.1 xs)] (.int r) := by rw [hr]; exact cmpN y x ys xs hys hxs
    have ldh : ∀ {o : Nat} {c : D}, o = 0 + (A.div (A.add i j) 2).toNat * 1 → c = ds0.getD o default → c = .e (.fs y.1 ys) := fun {o c} q1 q2 => by
      rw [hA.div, hA.add] at q1
      rw [dsR_get hds0 (by omega) q2, hys, hy, hC0, show P ++ (x :: (B ++ S)) = (P ++ [x]) ++ (B ++ S) by simp, getD_app _ _ (show o = (P ++ [x]).length + w by simp; omega), getD_left _ _ (by omega)]
    have hK1 : ∀ env : List (Nat × D), rcmp y x < 0 → subL [(10, .int ((i + j) / 2 + 1)), (11, .int j), (0, .vec 0 n 1), (1, .int a), (2, .int m0), (3, .int b), (4, cmpD)] env → K ⟨env, [.vec bb 1 ds0]⟩ := fun env q1 q2 =>
      hK _ (v - (w + 1)) _ (by omega) (Weak.keep q2) ⟨w + 1, v, _, _, by omega, hj, by omega, h2, rfl, fun t ht => by
        have := srt_get hsB (show t ≤ w by omega) (by omega)
        rw [← hy] at this
        have n1 := rcmp_neg (B.getD t r0) x
        have n2 := rcmp_neg y x
        rcases Int.lt_or_le (rcmp (B.getD t r0) x) 0 with q | q
        · exact q
        · have := rcmp_trans (show rcmp x (B.getD t r0) ≤ 0 by omega) this
          omega, h5, rfl⟩
    have hK2 : ∀ env : List (Nat × D), ¬ rcmp y x < 0 → subL [(10, .int i), (11, .int ((i + j) / 2)), (0, .vec 0 n 1), (1, .int a), (2, .int m0), (3, .int b), (4, cmpD)] env → K ⟨env, [.vec bb 1 ds0]⟩ := fun env q1 q2 =>
      hK _ (w - u) _ (by omega) (Weak.keep q2) ⟨u, w, _, _, hi, by omega, by omega, by omega, rfl, h4, fun t ht ht2 q => by
        have := srt_get hsB (show w ≤ t by omega) ht2
        rw [← hy] at this
        have n1 := rcmp_neg (B.getD t r0) x
        have n2 := rcmp_neg y x
        have := rcmp_trans this (show rcmp (B.getD t r0) x ≤ 0 by omega)
        have := rcmp_trans (show rcmp x y ≤ 0 by omega) (show rcmp y (B.getD t r0) ≤ 0 by assumption)
        omega, rfl⟩
    clear hK h4 h5 hh
    cbv
    repeat' first | with_reducible rfl | (simp only [e2]; cbv) | with_reducible refine And.intro ?_ ?_ | ((with_reducible intro hcc); first | (cases hcc; done) | skip) | ((with_reducible first | show goC _ _ _ _ _ _ _ _ | show goOps _ _ _ _ _ | show goD _ _ _ _ _ _); cbv) | ((with_reducible show okWr _ _ = _); rfl) | ((with_reducible first | refine callK_f hA hP h28 ?_ ?_ ?_); exact rfl; exact rfl; cbv) | ((with_reducible refine hA.ld1 _ _ _ ⟨?_, fun c hc => ?_⟩); rotate_left; first | ((have e9 := lda hb hc); subst e9; cbv) | ((have e9 := ldh hb hc); subst e9; cbv)) | ((with_reducible first | refine hA.fin_pl _ _ _ ?_ | refine hA.off _ _ _ _ fun b hb => ?_ | refine hA.gb0 true _ ?_ | refine hA.gb0 false _ ?_ | refine hA.gb _ _ fun vb hvb => ?_); cbv) | ((with_reducible first | refine hA.st _ _ _ _ _ ⟨?_, fun ds hds => ?_⟩ | refine hA.sapp _ _ _ ⟨?_, fun sl hsl => ?_⟩); rotate_left; cbv) | (simp only [hA.lits]; cbv)
    all_goals try simp only [hA.ar, inR, n_cast, Int.ofNat_eq_natCast, Option.getD_some, Option.getD_none] at *
    all_goals first
      | omega
      | exact f28ok hP
      | (simp [IntKind.min, IntKind.max, IntKind.signed, IntKind.bits]; omega)
      | exact hK1 _ (by rw [← hr]; exact of_decide_eq_true (by assumption)) ⟨rfl, rfl, rfl, rfl, rfl, rfl, rfl, trivial⟩
      | exact hK2 _ (by rw [← hr]; exact of_decide_eq_false (by assumption)) ⟨rfl, rfl, rfl, rfl, rfl, rfl, rfl, trivial⟩
      | (trace_state; fail)
  · have e2 : A.lt i j = false := by rw [hA.lt]; exact decide_eq_false (by omega)
    have huv : u = v := by omega
    subst huv
    clear hK
    have hfin : P ++ (B.take u ++ x :: (B.drop u ++ S)) = R0 := by
      rw [hR0, ← srt_mid (L := B.take u) (R := B.drop u) (x := x) hc]
      · simp
      · have p1 : (B.take u ++ x :: B.drop u).Perm (x :: (B.take u ++ B.drop u)) := List.perm_middle
        rw [List.take_append_drop] at p1
        exact p1
      · rw [List.take_append_drop]; exact hsB
      · intro r hr
        obtain ⟨t, t1, t2, rfl⟩ := mem_take_getD hr
        exact .inl (h4 t t1)
      · intro r hr
        have hrB := List.mem_of_mem_drop hr
        obtain ⟨t, t1, t2, rfl⟩ := mem_drop_getD hr
        exact le_of (h5 t t1 t2) (hst _ hrB)
    clear h4 h5
    cbv
    repeat' first | with_reducible rfl | (simp only [e2]; cbv) | with_reducible refine And.intro ?_ ?_ | ((with_reducible intro hcc); first | (cases hcc; done) | skip) | ((with_reducible first | show goC _ _ _ _ _ _ _ _ | show goOps _ _ _ _ _ | show goD _ _ _ _ _ _); cbv) | ((with_reducible show okWr _ _ = _); rfl) | ((with_reducible first | refine hA.fin_pl _ _ _ ?_ | refine hA.off _ _ _ _ fun b hb => ?_ | refine hA.gb0 true _ ?_ | refine hA.gb0 false _ ?_ | refine hA.gb _ _ fun vb hvb => ?_); cbv) | ((with_reducible first | refine hA.st _ _ _ _ _ ⟨?_, fun ds hds => ?_⟩ | refine hA.sapp _ _ _ ⟨?_, fun sl hsl => ?_⟩); rotate_left; cbv) | (simp only [hA.lits]; cbv)
    all_goals try simp only [hA.ar, inR, n_cast, Int.ofNat_eq_natCast, Option.getD_some, Option.getD_none] at *
    refine hA.loopI (fun mm s => ∃ (t : Nat) (k : Int) (ds : List D), k = a + t ∧ t ≤ u ∧ mm = u - t ∧ ds = dsR (P ++ (B.take t ++ x :: (B.drop t ++ S))) ∧
        s = ⟨[(13, .int k), (10, .int i), (0, .vec 0 n 1), (1, .int a), (2, .int m0), (3, .int b), (4, cmpD)], [.vec bb 1 ds]⟩) u _
      (Weak.keep (env' := [(13, .int a), (10, .int i), (0, .vec 0 n 1), (1, .int a), (2, .int m0), (3, .int b), (4, cmpD)]) ⟨rfl, rfl, rfl, rfl, rfl, rfl, rfl, trivial⟩) ⟨0, a, ds0, by omega, by omega, rfl, by rw [hds0, hC0]; simp, rfl⟩ ?_
    rintro mm2 s K' ⟨t, k, ds1, g1, g2, g3, hd1, rfl⟩ hK
    rcases Nat.lt_or_ge t u with htu | htu
    · have e3 : A.lt k (A.sub i 1) = true := by rw [hA.lt, hA.sub]; exact decide_eq_true (by omega)
      obtain ⟨y, B1, hy, hy2⟩ : ∃ x A1, B.drop t = x :: A1 ∧ B.take (t + 1) = B.take t ++ [x] := ⟨B[t]'(by omega), B.drop (t + 1), List.drop_eq_getElem_cons (by omega), by rw [List.take_add_one]; simp [show t < B.length by omega]⟩
      have hB1 : B.drop (t + 1) = B1 := by have := congrArg List.tail hy; rwa [List.tail_drop] at this
      obtain ⟨ys, hys⟩ : ∃ ys, ys = y.2.map vr := ⟨_, rfl⟩
      obtain ⟨CL, hCL⟩ : ∃ CL, CL = (P ++ B.take t) ++ x :: y :: (B1 ++ S) := ⟨_, rfl⟩
      rw [hy] at hd1
      have g4 : ds1 = dsR CL := by rw [hd1, hCL]; simp
      have hl2 : B.length = t + 1 + B1.length := by have := congrArg List.length hy; simp at this; omega
      have hu : (P ++ B.take t).length = P.length + t := by simp; omega
      have hCLl : CL.length = n := by rw [hCL, List.length_append, hu, List.length_cons, List.length_cons, List.length_append]; omega
      have hdl1 : ds1.length = n := by rw [g4, dsR_len, hCLl]
      have ldx : ∀ {o : Nat} {c : D}, o = 0 + k.toNat * 1 → c = ds1.getD o default → c = .e (.fs x.1 xs) := fun {o c} q1 q2 => by
        rw [dsR_get g4 (by omega) q2, hxs, hCL, get_mid _ _ _ (by omega)]
      have ldy : ∀ {o : Nat} {c : D}, o = 0 + (A.add k 1).toNat * 1 → c = ds1.getD o default → c = .e (.fs y.1 ys) := fun {o c} q1 q2 => by
        rw [hA.add] at q1
        rw [dsR_get g4 (by omega) q2, hys, hCL, show (P ++ B.take t) ++ x :: y :: (B1 ++ S) = ((P ++ B.take t) ++ [x]) ++ y :: (B1 ++ S) by simp, get_mid _ _ _ (by rw [List.length_append, hu]; simp; omega)]
      have hK3 : ∀ (o o' : Nat) (ds2 ds3 : List D) (env : List (Nat × D)), o = 0 + k.toNat * 1 → o' = 0 + (k + 1).toNat * 1 → ds2 = ds1.take o ++ [.e (.fs y.1 ys)] ++ ds1.drop (o + 1) → ds3 = ds2.take o' ++ [.e (.fs x.1 xs)] ++ ds2.drop (o' + 1) →
          subL [(13, .int (k + 1)), (10, .int i), (0, .vec 0 n 1), (1, .int a), (2, .int m0), (3, .int b), (4, cmpD)] env → K' ⟨env, [.vec bb 1 ds3]⟩ := fun o o' ds2 ds3 env q1 q2 q4 q5 q6 => by
        rw [hys] at q4
        rw [hxs] at q5
        have d1 := dsR_set g4 (by omega) q4
        have d2 := dsR_set d1 (by rw [List.length_set]; omega) q5
        refine hK _ (u - (t + 1)) _ (by omega) (Weak.keep q6) ⟨t + 1, k + 1, ds3, by omega, by omega, rfl, ?_, rfl⟩
        rw [d2, show o = (P ++ B.take t).length by omega, show o' = (P ++ B.take t).length + 1 by omega, hCL, swap_adj2, hy2, hB1]
        simp
      clear hd1 hK hy hy2 hB1
      cbv
      repeat' first | with_reducible rfl | (simp only [e3]; cbv) | with_reducible refine And.intro ?_ ?_ | ((with_reducible intro hcc); first | (cases hcc; done) | skip) | ((with_reducible first | show goC _ _ _ _ _ _ _ _ | show goOps _ _ _ _ _ | show goD _ _ _ _ _ _); cbv) | ((with_reducible show okWr _ _ = _); rfl) | ((with_reducible refine hA.ld1 _ _ _ ⟨?_, fun c hc => ?_⟩); rotate_left; first | ((have e9 := ldx hb hc); subst e9; cbv) | ((have e9 := ldy hb hc); subst e9; cbv)) | ((with_reducible refine hA.st ds1 _ _ _ _ ⟨?_, fun ds2 hds2 => ?_⟩); rotate_left; cbv) | ((with_reducible refine hA.st ds2 _ _ _ _ ⟨?_, fun ds3 hds3 => ?_⟩); rotate_left; cbv) | ((with_reducible first | refine hA.fin_pl _ _ _ ?_ | refine hA.off _ _ _ _ fun b hb => ?_ | refine hA.gb0 true _ ?_ | refine hA.gb0 false _ ?_ | refine hA.gb _ _ fun vb hvb => ?_); cbv) | ((with_reducible first | refine hA.st _ _ _ _ _ ⟨?_, fun ds hds => ?_⟩ | refine hA.sapp _ _ _ ⟨?_, fun sl hsl => ?_⟩); rotate_left; cbv) | (simp only [hA.lits]; cbv)
      all_goals try simp only [hA.ar, inR, n_cast, Int.ofNat_eq_natCast, Option.getD_some, Option.getD_none] at *
      all_goals first
        | omega
        | exact hK3 _ _ ds2 ds3 _ (by omega) (by omega) hds2 hds3 ⟨rfl, rfl, rfl, rfl, rfl, rfl, rfl, trivial⟩
        | (rw [hds2]; simp; omega)
        | (trace_state; fail)
    · have e3 : A.lt k (A.sub i 1) = false := by rw [hA.lt, hA.sub]; exact decide_eq_false (by omega)
      have : t = u := by omega
      subst this
      have e : ds1 = dsF := by rw [hd1, hdsF, hfin]
      clear hd1 hK hfin
      cbv
      repeat' first | with_reducible rfl | (simp only [e3]; cbv) | with_reducible refine And.intro ?_ ?_ | ((with_reducible intro hcc); first | (cases hcc; done) | skip) | ((with_reducible first | show goC _ _ _ _ _ _ _ _ | show goOps _ _ _ _ _ | show goD _ _ _ _ _ _); cbv) | ((with_reducible show okWr _ _ = _); rfl) | ((with_reducible first | refine hA.fin_pl _ _ _ ?_ | refine hA.off _ _ _ _ fun b hb => ?_ | refine hA.gb0 true _ ?_ | refine hA.gb0 false _ ?_ | refine hA.gb _ _ fun vb hvb => ?_); cbv) | ((with_reducible first | refine hA.st _ _ _ _ _ ⟨?_, fun ds hds => ?_⟩ | refine hA.sapp _ _ _ ⟨?_, fun sl hsl => ?_⟩); rotate_left; cbv) | (simp only [hA.lits]; cbv)
      all_goals try simp only [hA.ar, inR, n_cast, Int.ofNat_eq_natCast, Option.getD_some, Option.getD_none] at *
      all_goals first
        | omega
        | exact sp_fin hA hdsF rfl rfl e rfl
        | (trace_state; fail)
end Go.Proofs.Ytfplalbognalkaa.Ab.NS
/- Sorting: sorted ones, and one row behind them; the plain law of a merge. -/
namespace Go.Proofs.Ytfplalbognalkaa.Ab.NS
open Go
theorem swap_back (A B : List Row) (y x : Row) : ((A ++ y :: x :: B).set (A.length + 1) y).set A.length x = A ++ x :: y :: B := swap_adj A B y x
set_option maxRecDepth 100000 in
set_option maxHeartbeats 4000000 in
theorem ok191b (P B S : List Row) (x : Row) (hB0 : 2 ≤ B.length) (hc : ∀ r ∈ B ++ [x], Cl r) (hst : ∀ r ∈ B, rcmp r x = 0 → r.1 ≤ x.1) (hsB : Srt B) (hlen : (P ++ (B ++ (x :: S))).length ≤ 2147483648) {a m0 b : Int} (ha : a = P.length) (hm : m0 = P.length + B.length) (hb : b = P.length + B.length + 1) :
    SP 191 [.int a, .int m0, .int b] (P ++ (B ++ (x :: S))) (P ++ (srt (B ++ [x]) ++ S)) := by
  intro bb
  refine procOf mixed p191 (sp_side (fun _ => rfl) fun _ => rfl) fun A Pr hA hP => ?_
  obtain ⟨n, hn⟩ : ∃ n, n = (P ++ (B ++ (x :: S))).length := ⟨_, rfl⟩
  obtain ⟨C0, hC0⟩ : ∃ C, C = P ++ (B ++ (x :: S)) := ⟨_, rfl⟩
  obtain ⟨ds0, hds0⟩ : ∃ ds, ds = dsR C0 := ⟨_, rfl⟩
  obtain ⟨R0, hR0⟩ : ∃ R, R = P ++ (srt (B ++ [x]) ++ S) := ⟨_, rfl⟩
  obtain ⟨dsF, hdsF⟩ : ∃ ds, ds = dsR R0 := ⟨_, rfl⟩
  have hnl : n = P.length + 1 + B.length + S.length := by rw [hn]; simp; omega
  have hCl : C0.length = n := by rw [hC0, hn]
  have hdl : ds0.length = n := by rw [hds0, dsR_len, hCl]
  rw [← hn, ← hC0, ← hds0, ← hR0, ← hdsF]
  have e0 : A.eq (A.sub m0 a) 1 = false := by rw [hA.eq, hA.sub]; exact decide_eq_false (by omega)
  have e1 : A.eq (A.sub b m0) 1 = true := by rw [hA.eq, hA.sub]; exact decide_eq_true (by omega)
  obtain ⟨xs, hxs⟩ : ∃ xs, xs = x.2.map vr := ⟨_, rfl⟩
  have lda : ∀ {o : Nat} {c : D}, o = 0 + m0.toNat * 1 → c = ds0.getD o default → c = .e (.fs x.1 xs) := fun {o c} q1 q2 => by
    rw [dsR_get hds0 (by omega) q2, hxs, hC0, show P ++ (B ++ (x :: S)) = (P ++ B) ++ (x :: S) by simp, get_mid _ _ _ (by simp; omega)]
  cbv
  repeat' first | with_reducible rfl | (simp only [e0, e1]; cbv) | with_reducible refine And.intro ?_ ?_ | ((with_reducible intro hcc); first | (cases hcc; done) | skip) | ((with_reducible first | show goC _ _ _ _ _ _ _ _ | show goOps _ _ _ _ _ | show goD _ _ _ _ _ _); cbv) | ((with_reducible show okWr _ _ = _); rfl) | ((with_reducible first | refine hA.fin_pl _ _ _ ?_ | refine hA.off _ _ _ _ fun b hb => ?_ | refine hA.gb0 true _ ?_ | refine hA.gb0 false _ ?_ | refine hA.gb _ _ fun vb hvb => ?_); cbv) | ((with_reducible first | refine hA.st _ _ _ _ _ ⟨?_, fun ds hds => ?_⟩ | refine hA.sapp _ _ _ ⟨?_, fun sl hsl => ?_⟩); rotate_left; cbv) | (simp only [hA.lits]; cbv)
  all_goals try simp only [hA.ar, inR, n_cast, Int.ofNat_eq_natCast, Option.getD_some, Option.getD_none] at *
  · omega
  · omega
  refine hA.loopI (fun mm s => ∃ (u v : Nat) (i j : Int), i = a + u ∧ j = a + v ∧ u ≤ v ∧ v ≤ B.length ∧ mm = v - u ∧ (∀ t, t < u → rcmp (B.getD t r0) x ≤ 0) ∧ (∀ t, v ≤ t → t < B.length → ¬ rcmp (B.getD t r0) x ≤ 0) ∧
      s = ⟨[(14, .int i), (15, .int j), (0, .vec 0 n 1), (1, .int a), (2, .int m0), (3, .int b), (4, cmpD)], [.vec bb 1 ds0]⟩) B.length _
    (Weak.keep (env' := [(14, .int a), (15, .int m0), (0, .vec 0 n 1), (1, .int a), (2, .int m0), (3, .int b), (4, cmpD)]) ⟨rfl, rfl, rfl, rfl, rfl, rfl, rfl, trivial⟩) ⟨0, B.length, a, m0, by omega, by omega, by omega, by omega, by omega, fun t ht => by omega, fun t h1 h2 => by omega, rfl⟩ ?_
  rintro mm s K ⟨u, v, i, j, hi, hj, h1, h2, h3, h4, h5, rfl⟩ hK
  rcases Nat.lt_or_ge u v with huv | huv
  · have e2 : A.lt i j = true := by rw [hA.lt]; exact decide_eq_true (by omega)
    obtain ⟨w, hw⟩ : ∃ w : Nat, (w : Int) = (i + j) / 2 - a := ⟨((i + j) / 2 - a).toNat, by omega⟩
    obtain ⟨y, hy⟩ : ∃ y, y = B.getD w r0 := ⟨_, rfl⟩
    obtain ⟨ys, hys⟩ : ∃ ys, ys = y.2.map vr := ⟨_, rfl⟩
    obtain ⟨r, hr⟩ : ∃ r, r = rcmp x y := ⟨_, rfl⟩
    have h28 : Plain Try.prog 13 [.e (.fs x.1 xs), .e (.fs y.1 ys)] (.int r) := by rw [hr]; exact cmpN x y xs ys hxs hys
    have ldh : ∀ {o : Nat} {c : D}, o = 0 + (A.div (A.add i j) 2).toNat * 1 → c = ds0.getD o default → c = .e (.fs y.1 ys) := fun {o c} q1 q2 => by
      rw [hA.div, hA.add] at q1
      rw [dsR_get hds0 (by omega) q2, hys, hy, hC0, getD_app _ _ (show o = P.length + w by omega), getD_left _ _ (by omega)]
    have hK1 : ∀ env : List (Nat × D), ¬ rcmp x y < 0 → subL [(14, .int ((i + j) / 2 + 1)), (15, .int j), (0, .vec 0 n 1), (1, .int a), (2, .int m0), (3, .int b), (4, cmpD)] env → K ⟨env, [.vec bb 1 ds0]⟩ := fun env q1 q2 =>
      hK _ (v - (w + 1)) _ (by omega) (Weak.keep q2) ⟨w + 1, v, _, _, by omega, hj, by omega, h2, rfl, fun t ht => by
        have := srt_get hsB (show t ≤ w by omega) (by omega)
        rw [← hy] at this
        have n2 := rcmp_neg y x
        exact rcmp_trans this (show rcmp y x ≤ 0 by omega), h5, rfl⟩
    have hK2 : ∀ env : List (Nat × D), rcmp x y < 0 → subL [(14, .int i), (15, .int ((i + j) / 2)), (0, .vec 0 n 1), (1, .int a), (2, .int m0), (3, .int b), (4, cmpD)] env → K ⟨env, [.vec bb 1 ds0]⟩ := fun env q1 q2 =>
      hK _ (w - u) _ (by omega) (Weak.keep q2) ⟨u, w, _, _, hi, by omega, by omega, by omega, rfl, h4, fun t ht ht2 q => by
        have := srt_get hsB (show w ≤ t by omega) ht2
        rw [← hy] at this
        have := rcmp_trans this q
        have n2 := rcmp_neg y x
        omega, rfl⟩
    clear hK h4 h5
    cbv
    repeat' first | with_reducible rfl | (simp only [e2]; cbv) | with_reducible refine And.intro ?_ ?_ | ((with_reducible intro hcc); first | (cases hcc; done) | skip) | ((with_reducible first | show goC _ _ _ _ _ _ _ _ | show goOps _ _ _ _ _ | show goD _ _ _ _ _ _); cbv) | ((with_reducible show okWr _ _ = _); rfl) | ((with_reducible first | refine callK_f hA hP h28 ?_ ?_ ?_); exact rfl; exact rfl; cbv) | ((with_reducible refine hA.ld1 _ _ _ ⟨?_, fun c hc => ?_⟩); rotate_left; first | ((have e9 := lda hb hc); subst e9; cbv) | ((have e9 := ldh hb hc); subst e9; cbv)) | ((with_reducible first | refine hA.fin_pl _ _ _ ?_ | refine hA.off _ _ _ _ fun b hb => ?_ | refine hA.gb0 true _ ?_ | refine hA.gb0 false _ ?_ | refine hA.gb _ _ fun vb hvb => ?_); cbv) | ((with_reducible first | refine hA.st _ _ _ _ _ ⟨?_, fun ds hds => ?_⟩ | refine hA.sapp _ _ _ ⟨?_, fun sl hsl => ?_⟩); rotate_left; cbv) | (simp only [hA.lits]; cbv)
    all_goals try simp only [hA.ar, inR, n_cast, Int.ofNat_eq_natCast, Option.getD_some, Option.getD_none] at *
    all_goals first
      | omega
      | exact f28ok hP
      | (simp [IntKind.min, IntKind.max, IntKind.signed, IntKind.bits]; omega)
      | exact hK1 _ (by rw [← hr]; have q := (by assumption : (!decide (r < 0)) = true); simpa using q) ⟨rfl, rfl, rfl, rfl, rfl, rfl, rfl, trivial⟩
      | exact hK2 _ (by rw [← hr]; have q := (by assumption : (!decide (r < 0)) = false); simpa using q) ⟨rfl, rfl, rfl, rfl, rfl, rfl, rfl, trivial⟩
      | (trace_state; fail)
  · have e2 : A.lt i j = false := by rw [hA.lt]; exact decide_eq_false (by omega)
    have huv : u = v := by omega
    subst huv
    clear hK
    have hfin : P ++ (B.take u ++ x :: (B.drop u ++ S)) = R0 := by
      rw [hR0, ← srt_mid (L := B.take u) (R := B.drop u) (x := x) hc]
      · simp
      · have p1 : (B.take u ++ x :: B.drop u).Perm (x :: (B.take u ++ B.drop u)) := List.perm_middle
        rw [List.take_append_drop] at p1
        exact p1.trans (List.perm_append_singleton x B).symm
      · rw [List.take_append_drop]; exact hsB
      · intro r hr
        obtain ⟨t, t1, t2, rfl⟩ := mem_take_getD hr
        have n1 := rcmp_neg (B.getD t r0) x
        have n2 := h4 t t1
        exact le_of (by omega) (hst _ (by rw [List.getD, List.getElem?_eq_getElem t2]; exact List.getElem_mem t2))
      · intro r hr
        obtain ⟨t, t1, t2, rfl⟩ := mem_drop_getD hr
        have := h5 t t1 t2
        have := rcmp_neg (B.getD t r0) x
        exact .inl (by omega)
    clear h4 h5
    cbv
    repeat' first | with_reducible rfl | (simp only [e2]; cbv) | with_reducible refine And.intro ?_ ?_ | ((with_reducible intro hcc); first | (cases hcc; done) | skip) | ((with_reducible first | show goC _ _ _ _ _ _ _ _ | show goOps _ _ _ _ _ | show goD _ _ _ _ _ _); cbv) | ((with_reducible show okWr _ _ = _); rfl) | ((with_reducible first | refine hA.fin_pl _ _ _ ?_ | refine hA.off _ _ _ _ fun b hb => ?_ | refine hA.gb0 true _ ?_ | refine hA.gb0 false _ ?_ | refine hA.gb _ _ fun vb hvb => ?_); cbv) | ((with_reducible first | refine hA.st _ _ _ _ _ ⟨?_, fun ds hds => ?_⟩ | refine hA.sapp _ _ _ ⟨?_, fun sl hsl => ?_⟩); rotate_left; cbv) | (simp only [hA.lits]; cbv)
    all_goals try simp only [hA.ar, inR, n_cast, Int.ofNat_eq_natCast, Option.getD_some, Option.getD_none] at *
    refine hA.loopI (fun mm s => ∃ (t : Nat) (k : Int) (ds : List D), k = a + t ∧ u ≤ t ∧ t ≤ B.length ∧ mm = t - u ∧ ds = dsR (P ++ (B.take t ++ x :: (B.drop t ++ S))) ∧
        s = ⟨[(17, .int k), (14, .int i), (0, .vec 0 n 1), (1, .int a), (2, .int m0), (3, .int b), (4, cmpD)], [.vec bb 1 ds]⟩) (B.length - u) _
      (Weak.keep (env' := [(17, .int m0), (14, .int i), (0, .vec 0 n 1), (1, .int a), (2, .int m0), (3, .int b), (4, cmpD)]) ⟨rfl, rfl, rfl, rfl, rfl, rfl, rfl, trivial⟩) ⟨B.length, m0, ds0, by omega, by omega, by omega, rfl, by rw [hds0, hC0]; simp, rfl⟩ ?_
    rintro mm2 s K' ⟨t, k, ds1, g1, g2, g4, g3, hd1, rfl⟩ hK
    rcases Nat.lt_or_ge u t with htu | htu
    · have e3 : A.lt i k = true := by rw [hA.lt]; exact decide_eq_true (by omega)
      obtain ⟨t', rfl⟩ : ∃ t', t = t' + 1 := ⟨t - 1, by omega⟩
      obtain ⟨y, B1, hy, hy2⟩ : ∃ x A1, B.drop t' = x :: A1 ∧ B.take (t' + 1) = B.take t' ++ [x] := ⟨B[t']'(by omega), B.drop (t' + 1), List.drop_eq_getElem_cons (by omega), by rw [List.take_add_one]; simp [show t' < B.length by omega]⟩
      have hB1 : B.drop (t' + 1) = B1 := by have := congrArg List.tail hy; rwa [List.tail_drop] at this
      obtain ⟨ys, hys⟩ : ∃ ys, ys = y.2.map vr := ⟨_, rfl⟩
      obtain ⟨CL, hCL⟩ : ∃ CL, CL = (P ++ B.take t') ++ y :: x :: (B1 ++ S) := ⟨_, rfl⟩
      rw [hy2, hB1] at hd1
      have q4 : ds1 = dsR CL := by rw [hd1, hCL]; simp
      have hl2 : B.length = t' + 1 + B1.length := by have := congrArg List.length hy; simp at this; omega
      have hu : (P ++ B.take t').length = P.length + t' := by simp; omega
      have hCLl : CL.length = n := by rw [hCL, List.length_append, hu, List.length_cons, List.length_cons, List.length_append]; omega
      have hdl1 : ds1.length = n := by rw [q4, dsR_len, hCLl]
      have ldx : ∀ {o : Nat} {c : D}, o = 0 + k.toNat * 1 → c = ds1.getD o default → c = .e (.fs x.1 xs) := fun {o c} q1 q2 => by
        rw [dsR_get q4 (by omega) q2, hxs, hCL, show (P ++ B.take t') ++ y :: x :: (B1 ++ S) = ((P ++ B.take t') ++ [y]) ++ x :: (B1 ++ S) by simp, get_mid _ _ _ (by rw [List.length_append, hu]; simp; omega)]
      have ldy : ∀ {o : Nat} {c : D}, o = 0 + (A.sub k 1).toNat * 1 → c = ds1.getD o default → c = .e (.fs y.1 ys) := fun {o c} q1 q2 => by
        rw [hA.sub] at q1
        rw [dsR_get q4 (by omega) q2, hys, hCL, get_mid _ _ _ (by omega)]
      have hK3 : ∀ (o o' : Nat) (ds2 ds3 : List D) (env : List (Nat × D)), o = 0 + k.toNat * 1 → o' = 0 + (k - 1).toNat * 1 → ds2 = ds1.take o ++ [.e (.fs y.1 ys)] ++ ds1.drop (o + 1) → ds3 = ds2.take o' ++ [.e (.fs x.1 xs)] ++ ds2.drop (o' + 1) →
          subL [(17, .int (k - 1)), (14, .int i), (0, .vec 0 n 1), (1, .int a), (2, .int m0), (3, .int b), (4, cmpD)] env → K' ⟨env, [.vec bb 1 ds3]⟩ := fun o o' ds2 ds3 env q1 q2 q5 q6 q7 => by
        rw [hys] at q5
        rw [hxs] at q6
        have d1 := dsR_set q4 (by omega) q5
        have d2 := dsR_set d1 (by rw [List.length_set]; omega) q6
        refine hK _ (t' - u) _ (by omega) (Weak.keep q7) ⟨t', k - 1, ds3, by omega, by omega, by omega, rfl, ?_, rfl⟩
        rw [d2, show o = (P ++ B.take t').length + 1 by omega, show o' = (P ++ B.take t').length by omega, hCL, swap_back, hy]
        simp
      clear hd1 hK hy hy2 hB1
      cbv
      repeat' first | with_reducible rfl | (simp only [e3]; cbv) | with_reducible refine And.intro ?_ ?_ | ((with_reducible intro hcc); first | (cases hcc; done) | skip) | ((with_reducible first | show goC _ _ _ _ _ _ _ _ | show goOps _ _ _ _ _ | show goD _ _ _ _ _ _); cbv) | ((with_reducible show okWr _ _ = _); rfl) | ((with_reducible refine hA.ld1 _ _ _ ⟨?_, fun c hc => ?_⟩); rotate_left; first | ((have e9 := ldx hb hc); subst e9; cbv) | ((have e9 := ldy hb hc); subst e9; cbv)) | ((with_reducible refine hA.st ds1 _ _ _ _ ⟨?_, fun ds2 hds2 => ?_⟩); rotate_left; cbv) | ((with_reducible refine hA.st ds2 _ _ _ _ ⟨?_, fun ds3 hds3 => ?_⟩); rotate_left; cbv) | ((with_reducible first | refine hA.fin_pl _ _ _ ?_ | refine hA.off _ _ _ _ fun b hb => ?_ | refine hA.gb0 true _ ?_ | refine hA.gb0 false _ ?_ | refine hA.gb _ _ fun vb hvb => ?_); cbv) | ((with_reducible first | refine hA.st _ _ _ _ _ ⟨?_, fun ds hds => ?_⟩ | refine hA.sapp _ _ _ ⟨?_, fun sl hsl => ?_⟩); rotate_left; cbv) | (simp only [hA.lits]; cbv)
      all_goals try simp only [hA.ar, inR, n_cast, Int.ofNat_eq_natCast, Option.getD_some, Option.getD_none] at *
      all_goals first
        | omega
        | exact hK3 _ _ ds2 ds3 _ (by omega) (by omega) hds2 hds3 ⟨rfl, rfl, rfl, rfl, rfl, rfl, rfl, trivial⟩
        | (rw [hds2]; simp; omega)
        | (trace_state; fail)
    · have e3 : A.lt i k = false := by rw [hA.lt]; exact decide_eq_false (by omega)
      have : t = u := by omega
      subst this
      have e : ds1 = dsF := by rw [hd1, hdsF, hfin]
      clear hd1 hK hfin
      cbv
      repeat' first | with_reducible rfl | (simp only [e3]; cbv) | with_reducible refine And.intro ?_ ?_ | ((with_reducible intro hcc); first | (cases hcc; done) | skip) | ((with_reducible first | show goC _ _ _ _ _ _ _ _ | show goOps _ _ _ _ _ | show goD _ _ _ _ _ _); cbv) | ((with_reducible show okWr _ _ = _); rfl) | ((with_reducible first | refine hA.fin_pl _ _ _ ?_ | refine hA.off _ _ _ _ fun b hb => ?_ | refine hA.gb0 true _ ?_ | refine hA.gb0 false _ ?_ | refine hA.gb _ _ fun vb hvb => ?_); cbv) | ((with_reducible first | refine hA.st _ _ _ _ _ ⟨?_, fun ds hds => ?_⟩ | refine hA.sapp _ _ _ ⟨?_, fun sl hsl => ?_⟩); rotate_left; cbv) | (simp only [hA.lits]; cbv)
      all_goals try simp only [hA.ar, inR, n_cast, Int.ofNat_eq_natCast, Option.getD_some, Option.getD_none] at *
      all_goals first
        | omega
        | exact sp_fin hA hdsF rfl rfl e rfl
        | (trace_state; fail)
theorem srt_join {X Y : List Row} (hc : ∀ r ∈ X ++ Y, Cl r) (h : ∀ x ∈ X, ∀ y ∈ Y, le x y) : srt X ++ srt Y = srt (X ++ Y) := by
  refine srt_unique hc ((srt_perm X).append (srt_perm Y)) (List.pairwise_append.2 ⟨srt_srt X, srt_srt Y, fun a ha b hb => h a ((srt_perm X).mem_iff.1 ha) b ((srt_perm Y).mem_iff.1 hb)⟩)
theorem srt_eqp {X Y : List Row} (hc : ∀ r ∈ X, Cl r) (h : X.Perm Y) : srt X = srt Y :=
  srt_unique (fun r hr => hc r (h.mem_iff.2 hr)) ((srt_perm X).trans h) (srt_srt X)
theorem srt_sym {A1 A2 B1 B2 : List Row} (hc : ∀ r ∈ (A1 ++ A2) ++ (B1 ++ B2), Cl r) (ha : Srt (A1 ++ A2)) (hb : Srt (B1 ++ B2)) (h1 : ∀ x ∈ A1, ∀ y ∈ B2, le x y) (h2 : ∀ x ∈ A2, ∀ y ∈ B1, le y x) :
    srt (A1 ++ B1) ++ srt (A2 ++ B2) = srt ((A1 ++ A2) ++ (B1 ++ B2)) := by
  have hp : ((A1 ++ A2) ++ (B1 ++ B2)).Perm ((A1 ++ B1) ++ (A2 ++ B2)) := by
    rw [List.append_assoc, List.append_assoc]
    refine List.Perm.append_left A1 ?_
    rw [← List.append_assoc, ← List.append_assoc]
    exact List.Perm.append_right B2 List.perm_append_comm
  rw [srt_eqp hc hp]
  refine srt_join (fun r hr => hc r (hp.mem_iff.2 hr)) fun x hx y hy => ?_
  have pa := (List.pairwise_append.1 ha).2.2
  have pb := (List.pairwise_append.1 hb).2.2
  rcases List.mem_append.1 hx with hx | hx <;> rcases List.mem_append.1 hy with hy | hy
  · exact pa x hx y hy
  · exact h1 x hx y hy
  · exact h2 y hy x hx
  · exact pb x hx y hy
end Go.Proofs.Ytfplalbognalkaa.Ab.NS
