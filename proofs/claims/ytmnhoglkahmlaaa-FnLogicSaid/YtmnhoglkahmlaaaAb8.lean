/- Regions whose steps come in no fixed order. -/
import Derived.Test.YtmnhoglkahmlaaaAb7
set_option linter.unusedSimpArgs false
set_option linter.unusedVariables false
set_option linter.unnecessarySimpa false
set_option linter.constructorNameAsVariable false
namespace Go.Proofs.Ytmnhoglkahmlaaa.Ab
open Go

/-! ### The last write of a set of steps -/
def lastS {α : Type} (S : Nat → Bool) : Nat → List (Option α) → α → α
  | _, [], x => x
  | k, w :: r, x => lastS S (k + 1) r (if S k then w.getD x else x)

theorem lastS_agree {α : Type} {S S' : Nat → Bool} : ∀ (ws : List (Option α)) (k : Nat) (x : α), (∀ j, j < ws.length → S (k + j) ≠ S' (k + j) → ws[j]? = some none) →
    lastS S k ws x = lastS S' k ws x
  | [], _, _, _ => rfl
  | w :: r, k, x, h => by
    simp only [lastS]
    have e : (if S k then w.getD x else x) = if S' k then w.getD x else x := by
      by_cases e : S k = S' k
      · rw [e]
      · have := h 0 (by simp) (by simpa using e)
        simp at this
        subst this
        simp
    rw [e]
    exact lastS_agree r (k + 1) _ fun j hj hne => by
      have := h (j + 1) (by simp; omega) (by rw [show k + (j + 1) = k + 1 + j by omega]; exact hne)
      simpa using this

theorem lastS_put {α : Type} {S : Nat → Bool} {v : α} : ∀ (ws : List (Option α)) (k j : Nat) (x : α), ws[j]? = some (some v) → S (k + j) = true → (∀ i, j < i → i < ws.length → S (k + i) = true → ws[i]? = some none) →
    lastS S k ws x = v
  | [], _, _, _, h, _, _ => by simp at h
  | w :: r, k, 0, x, h, hs, hn => by
    simp at h hs; subst h
    simp only [lastS, hs, if_true, Option.getD_some]
    rw [lastS_agree (S' := fun _ => false) r (k + 1) v fun j hj hne => ?_]
    · have : ∀ (ws : List (Option α)) k, lastS (fun _ => false) k ws v = v := by
        intro ws
        induction ws with
        | nil => intro k; rfl
        | cons w r ih => intro k; simp only [lastS]; exact ih _
      exact this _ _
    · have h1 : S (k + 1 + j) = true := by simpa using hne
      have := hn (j + 1) (by omega) (by simp; omega) (by rw [show k + (j + 1) = k + 1 + j by omega]; exact h1)
      simpa using this
  | w :: r, k, j + 1, x, h, hs, hn => by
    simp only [lastS]
    exact lastS_put r (k + 1) j _ (by simpa using h) (by rw [show k + 1 + j = k + (j + 1) by omega]; exact hs) fun i h1 h2 h3 => by
      have := hn (i + 1) (by omega) (by simp; omega) (by rw [show k + (i + 1) = k + 1 + i by omega]; exact h3)
      simpa using this

/-! ### What a step has done -/
structure Rec where
  dst : Option Nat
  eff : Eff
  f : Nat

def Rec.tv (r : Rec) (i : Nat) : Option O := if r.f ≤ i ∧ i < r.f + r.eff.al.length then some (r.eff.al.getD (i - r.f) .dead) else (r.eff.wr.find? (·.1 == i)).map (·.2)

def Rec.en (r : Rec) (t : Nat) : Option (Option D) := if r.dst = some t then some (some (r.eff.d.getD .any)) else none

theorem Rec.happ_eq (r : Rec) (h : Hp) : happ h r.f r.eff = fun i => (r.tv i).getD (h i) := by
  funext i
  simp only [happ, Rec.tv]
  split
  · rfl
  · cases r.eff.wr.find? (·.1 == i) <;> rfl

def runR (s : St) : List Rec → St
  | [] => s
  | r :: rs => runR (s.app r.dst r.eff) rs

/-- The numbers of new things are as the text goes. -/
def okR (s : St) : List Rec → Prop
  | [] => True
  | r :: rs => r.f = s.hp.length ∧ okWr s.hp.length r.eff.wr = true ∧ (∀ i ∈ r.eff.tc, i < s.hp.length) ∧ okR (s.app r.dst r.eff) rs

theorem runR_heap : ∀ (rs : List Rec) (s : St) (k i : Nat), okR s rs → lastS (fun _ => true) k (rs.map (·.tv i)) (hpF s.hp i) = hpF (runR s rs).hp i
  | [], _, _, _, _ => rfl
  | r :: rs, s, k, i, h => by
    obtain ⟨h1, h2, _, h3⟩ := h
    simp only [List.map_cons, lastS, if_true, runR]
    rw [← runR_heap rs _ (k + 1) i h3]
    have := congrFun (happ_app h2) i
    rw [← h1, Rec.happ_eq] at this
    simp only at this
    rw [this]
    rfl

theorem runR_env : ∀ (rs : List Rec) (s : St) (k t : Nat), lastS (fun _ => true) k (rs.map (·.en t)) (look t s.env) = look t (runR s rs).env
  | [], _, _, _ => rfl
  | r :: rs, s, k, t => by
    simp only [List.map_cons, lastS, if_true, runR]
    rw [← runR_env rs _ (k + 1) t]
    congr 1
    simp only [Rec.en]
    cases hd : r.dst with
    | none => simp [St.app]
    | some u =>
      by_cases e : u = t
      · subst e; cases he : r.eff.d <;> simp [St.app, he, look]
      · cases he : r.eff.d <;> simp [St.app, he, look, e]

theorem okR_len : ∀ (rs : List Rec) (s : St), okR s rs → s.hp.length ≤ (runR s rs).hp.length
  | [], _, _ => Nat.le_refl _
  | r :: rs, s, h => Nat.le_trans (by simp [St.app, hset_len]) (okR_len rs _ h.2.2.2)

/-- Of a step of the run. -/
theorem okR_get : ∀ (rs : List Rec) (s : St) (j : Nat) (r : Rec), okR s rs → rs[j]? = some r →
    r.f = (runR s (rs.take j)).hp.length ∧ okWr r.f r.eff.wr = true ∧ (∀ i ∈ r.eff.tc, i < r.f) ∧ (∀ k x, j < k → rs[k]? = some x → r.f + r.eff.al.length ≤ x.f) ∧ s.hp.length ≤ r.f
  | [], _, j, _, _, h => by simp at h
  | r :: rs, s, 0, r', ok, h => by
    simp at h; subst h
    obtain ⟨h1, h2, h3, h4⟩ := ok
    refine ⟨h1, by rw [h1]; exact h2, by rw [h1]; exact h3, fun k x hk hx => ?_, by omega⟩
    obtain ⟨k, rfl⟩ : ∃ k', k = k' + 1 := ⟨k - 1, by omega⟩
    obtain ⟨_, _, _, _, h5⟩ := okR_get rs _ k x h4 (by simpa using hx)
    simp [St.app, hset_len] at h5
    omega
  | r :: rs, s, j + 1, r', ok, h => by
    obtain ⟨h1, h2, h3, h4⟩ := ok
    obtain ⟨a1, a2, a3, a4, a5⟩ := okR_get rs _ j r' h4 (by simpa using h)
    refine ⟨a1, a2, a3, fun k x hk hx => ?_, ?_⟩
    · obtain ⟨k, rfl⟩ : ∃ k', k = k' + 1 := ⟨k - 1, by omega⟩
      exact a4 k x (by omega) (by simpa using hx)
    · simp [St.app, hset_len] at a5
      omega

theorem okWr_lt {n : Nat} : ∀ {wr : List (Nat × O)}, okWr n wr = true → ∀ x ∈ wr, x.1 < n
  | [], _, x, hx => by cases hx
  | y :: r, hw, x, hx => by
    simp only [okWr, Bool.and_eq_true, decide_eq_true_eq] at hw
    cases hx with
    | head => exact hw.1.1
    | tail _ hx => exact okWr_lt hw.2 x hx

theorem Rec.tv_some {r : Rec} {i : Nat} {o : O} (h : r.tv i = some o) : (r.f ≤ i ∧ i < r.f + r.eff.al.length) ∨ ∃ x ∈ r.eff.wr, x.1 = i := by
  unfold Rec.tv at h
  split at h
  · exact .inl (by assumption)
  · simp only [Option.map_eq_some_iff] at h
    obtain ⟨x, hx, _⟩ := h
    exact .inr ⟨x, List.mem_of_find?_eq_some hx, by simpa using List.find?_some hx⟩

/-! ### The check -/
/-- Two steps in no fixed order touch different things: the earlier one 'k', the later one 'r'. -/
def apartR (k r : Rec) : Bool :=
  r.eff.tc.all (fun x => !(k.eff.wr.any (·.1 == x)) && !(decide (k.f ≤ x) && decide (x < k.f + k.eff.al.length))) && r.eff.wr.all (fun x => !(k.eff.tc.contains x.1))

def apartAll (pv : List Rec) (r : Rec) : List Nat → Bool
  | [] => true
  | k :: un => (match pv[k]? with | some x => apartR x r | none => false) && apartAll pv r un

def St.evR (s : St) (rd : List Nat) : X → Option D
  | .s t => if rd.contains t then look t s.env else none
  | .c d => some d

def goD (A : Ar) (P : Program) : List DIns → List Rec → St → (St → Prop) → Prop
  | [], _, s, K => K s
  | i :: r, pv, s, K => guardOf s i.i.g fun gd g => opA A P (s.evR i.rd) (hpF s.hp) s.hp.length true gd g i.i.i fun o eff =>
      o ∧ okWr s.hp.length eff.wr = true ∧ eff.tc.all (fun x => decide (x < s.hp.length)) = true ∧ apartAll pv ⟨i.i.dst, eff, s.hp.length⟩ i.un = true ∧
        goD A P r (pv ++ [⟨i.i.dst, eff, s.hp.length⟩]) (s.app i.i.dst eff) K

/-! ### What comes before what -/
def directs (o : Oper) : List Nat := (o.after.toList.filter (Region.binds .any)).map (·.on)

def ancs : List Oper → List (List Nat) → List (List Nat)
  | [], acc => acc
  | o :: r, acc => ancs r (acc ++ [((directs o).flatMap fun e => e :: acc.getD e []).eraseDups])

/-- A set of steps that holds what its steps wait for. -/
def Closed (ops : Array Oper) (S : Nat → Bool) : Prop := ∀ i o, ops[i]? = some o → S i = true → ∀ e ∈ directs o, S e = true

def unOf (A : List (List Nat)) (j : Nat) : List Nat := (List.range j).filter fun k => !((A.getD j []).contains k)

def prepD (P : Program) (nt : Nat) (ops : Array Oper) (A : List (List Nat)) (j : Nat) (o : Oper) : DIns :=
  let un := unOf A j
  let rd := o.looksAt ops
  if (directs o).all (fun e => decide (e < j)) && un.all (fun k => match ops[k]? with | some x => x.apart ops o | none => false) then ⟨prepIns P nt ops o, un, rd⟩ else ⟨⟨none, none, .bad⟩, [], []⟩

def prepDs (P : Program) (nt : Nat) (ops : Array Oper) (A : List (List Nat)) : Nat → List Oper → List DIns
  | _, [] => []
  | j, o :: r => prepD P nt ops A j o :: prepDs P nt ops A (j + 1) r

theorem ancs_spec {ops : Array Oper} : ∀ (l : List Oper) (acc : List (List Nat)), (∀ j, l[j]? = ops[acc.length + j]?) →
    (∀ (j : Nat) ks, acc[j]? = some ks → ∀ k ∈ ks, ∀ S, Closed ops S → (∀ o, ops[j]? = some o → ∀ e ∈ directs o, S e = true) → S k = true) →
    ∀ (j : Nat) ks, (ancs l acc)[j]? = some ks → ∀ k ∈ ks, ∀ S, Closed ops S → (∀ o, ops[j]? = some o → ∀ e ∈ directs o, S e = true) → S k = true
  | [], _, _, h => h
  | o :: r, acc, hl, h => by
    refine ancs_spec r _ (fun j => ?_) fun j ks hj k hk S hS hd => ?_
    · have := hl (j + 1)
      simp only [List.getElem?_cons_succ] at this
      rw [this, List.length_append, List.length_singleton, show acc.length + (j + 1) = acc.length + 1 + j by omega]
    · by_cases e : j < acc.length
      · rw [List.getElem?_append_left e] at hj
        exact h j ks hj k hk S hS hd
      · rw [List.getElem?_append_right (by omega)] at hj
        have ej : j = acc.length := by
          rcases Nat.lt_or_ge (j - acc.length) 1 with h1 | h1
          · omega
          · rw [List.getElem?_eq_none (by simpa using h1)] at hj; cases hj
        subst ej
        simp at hj
        subst hj
        have ho : ops[acc.length]? = some o := by have := hl 0; simpa using this.symm
        have hk : k ∈ ((directs o).flatMap fun e => e :: acc.getD e []) := by
          simpa [List.getD] using hk
        rw [List.mem_flatMap] at hk
        obtain ⟨x, hx, hk⟩ := hk
        have hSx := hd o ho x hx
        cases hk with
        | head => exact hSx
        | tail _ hk =>
          cases hax : acc[x]? with
          | none => simp only [List.getD, hax, Option.getD_none] at hk; cases hk
          | some ys =>
            simp only [List.getD, hax, Option.getD_some] at hk
            exact h x ys hax k hk S hS fun o' ho' e' he' => hS x o' ho' hSx e' he'

/-! ### One step of such a region -/
theorem guard_spec0 {ops : Array Oper} {s : St} {g : Option (Nat × Bool)} {o : Oper} {K : Bool → Bool → Prop} (hg : prepG ops o.guard = some g) (h : guardOf s g K) :
    ∃ gd g', K gd g' ∧ (g' = false → gd = true) ∧ ∀ (w : World) (G : Gh) (hp : Hp) (a : Act), (∀ t d, t ∈ o.looksAt ops → look t s.env = some d → Rv w G hp (a.tmps.getD t undef) d) →
      Region.wanted o (yielded ops a.tmps) = g' := by
  unfold prepG at hg
  split at hg
  · rename_i hn
    cases hg
    exact ⟨_, _, h, by simp, fun _ _ _ _ _ => by simp [Region.wanted, hn]⟩
  · rename_i j b hj
    simp only [Option.map_eq_some_iff] at hg
    obtain ⟨t, ht, rfl⟩ := hg
    simp only [guardOf] at h
    have hlook : t ∈ o.looksAt ops := by simp [Oper.looksAt, hj, ht]
    have hy : ∀ a : Act, yielded ops a.tmps j = match a.tmps.getD t undef with | .bool b => some b | _ => none := fun a => by
      unfold yielded
      rw [ht]
      simp only [Option.bind_some, Array.getD_eq_getD_getElem?]
      cases a.tmps[t]? with
      | none => rfl
      | some v => cases v <;> rfl
    split at h
    · rename_i x' hx
      refine ⟨_, _, h, by simp, fun w G hp a hr => ?_⟩
      obtain ⟨e, _⟩ := rv_v (hr t _ hlook hx)
      simp only [Region.wanted, hj, hy, e]
      cases x' <;> cases b <;> rfl
    · rename_i g' x' hx
      refine ⟨_, _, h, by simp, fun w G hp a hr => ?_⟩
      have r := hr t _ hlook hx
      have hya := hy a
      generalize a.tmps.getD t undef = v at r hya
      cases r with
      | when hr hu =>
        cases g' with
        | true =>
          obtain ⟨e, _⟩ := rv_v (hr rfl)
          subst e
          simp only [Region.wanted, hj, hya]
          cases x' <;> cases b <;> rfl
        | false =>
          have := hu rfl
          subst this
          simp only [Region.wanted, hj, hya]
          rfl
    · exact h.elim

def StepD (P : Program) (nt : Nat) (ops : Array Oper) (o : Oper) (r : Rec) (s : St) : Prop :=
  ∀ (w : World) (G : Gh) (h : Hp) (a : Act) (K : Act → World → Prop) (Q : Exit → Act → World → Prop), Inv w G h → (∀ i ∈ r.eff.tc, h i = hpF s.hp i) →
    (∀ m, m < r.eff.al.length → h (r.f + m) = .dead) → (∀ t d, t ∈ o.looksAt ops → look t s.env = some d → Rv w G h (a.tmps.getD t undef) d) →
    (∀ v w' G', (∀ d, r.eff.d = some d → Rv w' G' (happ h r.f r.eff) v d) → Inv w' G' (happ h r.f r.eff) → Ext w G h w' G' (happ h r.f r.eff) → K (a.put o.dst v) w') →
    if Region.wanted o (yielded ops a.tmps) then o.wp P a w K Q else K (a.put o.dst undef) w

theorem goD_spec {P : Program} {nt : Nat} {ops : Array Oper} {A : List (List Nat)} {K : St → Prop} : ∀ (l : List Oper) (j : Nat) (pv : List Rec) (s : St), goD Ar.std P (prepDs P nt ops A j l) pv s K → pv.length = j →
    ∃ recs : List Rec, recs.length = l.length ∧ okR s recs ∧ K (runR s recs) ∧ ∀ (m : Nat) o r, l[m]? = some o → recs[m]? = some r →
      StepD P nt ops o r (runR s (recs.take m)) ∧ r.dst = o.dst ∧ dstOk nt o.dst = true ∧ (∀ x ∈ r.eff.wr, x.1 ∈ r.eff.tc) ∧ (∀ e ∈ directs o, e < j + m) ∧
      ∀ k ∈ unOf A (j + m), (∃ x, ops[k]? = some x ∧ x.apart ops o = true) ∧ ∃ y, (pv ++ recs)[k]? = some y ∧ apartR y r = true := by
  intro l
  induction l with
  | nil => intro j pv s h _; exact ⟨[], rfl, trivial, h, fun m o r h => by simp at h⟩
  | cons o l ih =>
    intro j pv s h hj
    simp only [prepDs, goD, opA_std] at h
    unfold prepD at h
    simp only at h
    split at h
    case isFalse => exact (by simp [guardOf, opE] at h : False).elim
    rename_i hst
    simp only [Bool.and_eq_true, List.all_eq_true, decide_eq_true_eq] at hst
    obtain ⟨hst1, hst2⟩ := hst
    simp only at h
    unfold prepIns at h
    split at h
    case h_2 => exact (by simp [guardOf, opE] at h : False).elim
    rename_i g hg
    split at h
    case isFalse => exact (by simp [guardOf, opE] at h : False).elim
    rename_i hdst
    simp only at h
    obtain ⟨gd, g', h, hgd, hwant⟩ := guard_spec0 hg h
    obtain ⟨ow, eff, ⟨how, hwr, htc, hap, hk⟩, h1, h2, h3⟩ := op_sound (by simp) h
    obtain ⟨recs, q1, q2, q3, q4⟩ := ih (j + 1) _ _ hk (by simp [hj])
    refine ⟨⟨o.dst, eff, s.hp.length⟩ :: recs, by simp [q1], ⟨rfl, hwr, by simpa using htc, q2⟩, q3, fun m o' r ho hr => ?_⟩
    cases m with
    | zero =>
      simp at ho hr
      subst ho; subst hr
      refine ⟨?_, rfl, hdst, h2, by simpa using hst1, fun k hk' => ⟨?_, ?_⟩⟩
      · intro w G hh a K' Q hi ht hd hr hK'
        have hrel : Rel (s.evR (o.looksAt ops)) w G hh a := rel_of (fun _ => rfl) fun t d htd => by
          simp only [St.evR] at htd
          split at htd
          · rename_i hc
            exact hr t d (by simpa using hc) htd
          · cases htd
        split
        · rename_i hw
          rw [hwant w G hh a hr] at hw
          subst hw
          exact h3 how rfl w G hh a K' Q hi ht hd hrel hK'
        · rename_i hw
          have hg' : g' = false := by rw [hwant w G hh a hr] at hw; simpa using hw
          subst hg'
          obtain ⟨e1, e2, d, e3⟩ := h1 (hgd rfl)
          have e4 : happ hh s.hp.length eff = hh := by
            funext i
            simp only [happ, e1, e2, List.length_nil, Nat.add_zero, List.find?_nil]
            rw [if_neg (by omega)]
          have := hK' undef w G (fun d' hd' => by
            simp only at hd' ⊢
            rw [e3] at hd'; cases hd'
            exact .when (by simp) (fun _ => rfl)) (by simp only; rw [e4]; exact hi) (by simp only; rw [e4]; exact Ext.refl _ _ _)
          exact this
      · have := hst2 k hk'
        split at this
        · rename_i x hx; exact ⟨x, hx, this⟩
        · cases this
      · have hin : ∀ un : List Nat, apartAll pv ⟨o.dst, eff, s.hp.length⟩ un = true → ∀ k ∈ un, ∃ y, pv[k]? = some y ∧ apartR y ⟨o.dst, eff, s.hp.length⟩ = true := by
          intro un
          induction un with
          | nil => intro _ k hk; cases hk
          | cons u un ihu =>
            intro hu k hk
            simp only [apartAll, Bool.and_eq_true] at hu
            cases hk with
            | head =>
              have := hu.1
              split at this
              · rename_i x hx; exact ⟨x, hx, this⟩
              · cases this
            | tail _ hk => exact ihu hu.2 k hk
        obtain ⟨y, hy, hy'⟩ := hin _ hap k hk'
        refine ⟨y, ?_, hy'⟩
        have hlt : k < pv.length := by
          rcases Nat.lt_or_ge k pv.length with h | h
          · exact h
          · rw [List.getElem?_eq_none h] at hy; cases hy
        rw [List.getElem?_append_left hlt]; exact hy
    | succ m =>
      simp at ho hr
      obtain ⟨a1, a2, a3, a4, a5, a6⟩ := q4 m o' r ho hr
      refine ⟨by simpa [runR] using a1, a2, a3, a4, fun e he => by have := a5 e he; omega, fun k hk' => ?_⟩
      rw [show j + (m + 1) = j + 1 + m by omega] at hk'
      obtain ⟨b1, b2⟩ := a6 k hk'
      exact ⟨b1, by simpa using b2⟩

end Go.Proofs.Ytmnhoglkahmlaaa.Ab
