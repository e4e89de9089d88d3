/- Runs of steps, code, functions: what the small language says of them is what the machine does. -/
import Derived.Test.YtmnhoglkahmlaaaAb6
set_option linter.unusedSimpArgs false
set_option linter.unusedVariables false
set_option linter.unnecessarySimpa false
set_option linter.constructorNameAsVariable false
namespace Go.Proofs.Ytmnhoglkahmlaaa.Ab
open Go

/-! ### The language of code -/
/-- A step of a region in no fixed order: 'un': the earlier steps that it may come before, 'rd': the slots that it looks at. -/
structure DIns where
  i : Ins
  un : List Nat
  rd : List Nat
  deriving Inhabited

inductive C where
  | skip
  | reg (l : List Ins)
  | dreg (l : List DIns)
  | seq (a b : C)
  | cond (x : X) (a b : C)
  | block (id : Nat) (a : C)
  | loop (a : C)
  | exit (id : Nat)
  | ret
  | bad
  deriving Inhabited

inductive RV where
  | tmp (t : Nat)
  | cell (t : Nat) (agg : Bool) (n : Nat)
  deriving Inhabited

def prepG (ops : Array Oper) : Option (Nat × Bool) → Option (Option (Nat × Bool))
  | none => some none
  | some (j, b) => ((ops[j]?).bind (·.dst)).map fun t => some (t, b)

def dstOk (nt : Nat) : Option Nat → Bool
  | none => true
  | some t => decide (t < nt)

def prepIns (P : Program) (nt : Nat) (ops : Array Oper) (o : Oper) : Ins :=
  match prepG ops o.guard with
  | some g => if dstOk nt o.dst then ⟨o.dst, g, prepI P o.op⟩ else ⟨none, none, .bad⟩
  | none => ⟨none, none, .bad⟩

def guardOf (s : St) (g : Option (Nat × Bool)) (K : Bool → Bool → Prop) : Prop :=
  match g with
  | none => K false true
  | some (t, b) => match look t s.env with
    | some (.e (.v (.bool x))) => K true (x == b)
    | some (.when g' (.e (.v (.bool x)))) => K true (g' && (x == b))
    | _ => False

def okWr (n : Nat) : List (Nat × O) → Bool
  | [] => true
  | (i, _) :: r => decide (i < n) && !(r.any (·.1 == i)) && okWr n r

section
variable (A : Ar) (P : Program)
def goOps : List Ins → St → (St → Prop) → Prop
  | [], s, K => K s
  | i :: r, s, K => guardOf s i.g fun gd g => opA A P s.ev (hpF s.hp) s.hp.length false gd g i.i fun o eff => o ∧ okWr s.hp.length eff.wr = true ∧ goOps r (s.app i.dst eff) K
end

/-! ### States -/
structure Ctx where
  w : World
  G : Gh
  h : Hp
  nt : Nat

structure SR (c : Ctx) (s : St) (a : Act) (w : World) (G : Gh) : Prop where
  defers : a.defers = []
  size : a.tmps.size = c.nt
  inv : Inv w G (hpF s.hp)
  ext : Ext c.w c.G c.h w G (hpF s.hp)
  rel : ∀ t d, look t s.env = some d → Rv w G (hpF s.hp) (a.tmps.getD t undef) d

theorem SR.rels {c s a w G} (x : SR c s a w G) : Rel s.ev w G (hpF s.hp) a := rel_of (fun _ => rfl) x.rel

theorem hpF_ge {l : List O} {i : Nat} (h : l.length ≤ i) : hpF l i = .dead := by simp [hpF, List.getD, List.getElem?_eq_none h]

theorem hset_len : ∀ (wr : List (Nat × O)) (l : List O), (hset l wr).length = l.length
  | [], _ => rfl
  | (i, o) :: r, l => by rw [hset, hset_len r]; simp

theorem hset_get : ∀ (wr : List (Nat × O)) (l : List O) (i : Nat), okWr l.length wr = true → i < l.length →
    (hset l wr).getD i .dead = match wr.find? (·.1 == i) with | some x => x.2 | none => l.getD i .dead
  | [], l, i, _, _ => by simp [hset]
  | (j, o) :: r, l, i, h, hi => by
    simp only [okWr, Bool.and_eq_true, decide_eq_true_eq, Bool.not_eq_true'] at h
    obtain ⟨⟨h1, h2⟩, h3⟩ := h
    rw [hset, hset_get r (l.set j o) i (by simpa using h3) (by simpa using hi)]
    by_cases e : j = i
    · subst e
      rw [List.find?_eq_none.2 (fun x hx => by
        have := List.any_eq_false.1 h2 x hx
        simpa using this)]
      simp [List.find?, h1]
    · have : (j == i) = false := by simpa using e
      simp only [List.find?, this]
      cases hr : r.find? (·.1 == i) with
      | some x => simp
      | none => simp [List.getD, List.getElem?_set, e]

theorem happ_app {l : List O} {eff : Eff} (hw : okWr l.length eff.wr = true) : happ (hpF l) l.length eff = hpF (hset l eff.wr ++ eff.al) := by
  funext i
  simp only [happ, hpF]
  have hl := hset_len eff.wr l
  by_cases h1 : i < l.length
  · rw [if_neg (by omega)]
    have := hset_get eff.wr l i hw h1
    simp only [List.getD, List.getElem?_append_left (show i < (hset l eff.wr).length by omega)] at this ⊢
    exact this.symm
  · have hnf : eff.wr.find? (·.1 == i) = none := by
      refine List.find?_eq_none.2 fun x hx => ?_
      have : ∀ (wr : List (Nat × O)), okWr l.length wr = true → ∀ x ∈ wr, x.1 < l.length := by
        intro wr
        induction wr with
        | nil => intro _ x hx; cases hx
        | cons y r ih =>
          intro hw x hx
          simp only [okWr, Bool.and_eq_true, decide_eq_true_eq] at hw
          cases hx with
          | head => exact hw.1.1
          | tail _ hx => exact ih hw.2 x hx
      have := this _ hw x hx
      simp; omega
    rw [hnf]
    simp only [List.getD, List.getElem?_append_right (show (hset l eff.wr).length ≤ i by omega), hl]
    by_cases h2 : i < l.length + eff.al.length
    · rw [if_pos ⟨by omega, h2⟩]
    · rw [if_neg (by omega), List.getElem?_eq_none (show l.length ≤ i by omega), List.getElem?_eq_none (show eff.al.length ≤ i - l.length by omega)]

theorem look_app {s : St} {dst : Option Nat} {eff : Eff} {t : Nat} {d : D} (h : look t (s.app dst eff).env = some d) :
    (dst = some t ∧ (eff.d = some d ∨ d = .any)) ∨ (dst ≠ some t ∧ look t s.env = some d) := by
  cases dst with
  | none => exact .inr ⟨by simp, by simpa [St.app] using h⟩
  | some u =>
    by_cases e : u = t
    · subst e
      refine .inl ⟨rfl, ?_⟩
      cases hd : eff.d <;> simp [St.app, hd, look] at h
      · exact .inr h.symm
      · exact .inl (by rw [h])
    · refine .inr ⟨by simpa using e, ?_⟩
      cases hd : eff.d <;> simpa [St.app, hd, look, e] using h

theorem SR.app {c s a w G w' G' dst v eff} (x : SR c s a w G) (hdst : dstOk c.nt dst = true) (hw : okWr s.hp.length eff.wr = true)
    (hv : ∀ d, eff.d = some d → Rv w' G' (happ (hpF s.hp) s.hp.length eff) v d) (hi : Inv w' G' (happ (hpF s.hp) s.hp.length eff))
    (he : Ext w G (hpF s.hp) w' G' (happ (hpF s.hp) s.hp.length eff)) : SR c (s.app dst eff) (a.put dst v) w' G' := by
  rw [happ_app hw] at hv hi he
  refine ⟨?_, ?_, hi, x.ext.trans he, fun t d ht => ?_⟩
  · cases dst <;> exact x.defers
  · cases dst <;> simp [Act.put, x.size]
  · rcases look_app ht with ⟨rfl, h⟩ | ⟨h1, h2⟩
    · have : ((a.put (some t) v).tmps.getD t undef) = v := by
        simp only [dstOk, decide_eq_true_eq] at hdst
        have := x.size
        simp [Act.put, Array.getD, show t < a.tmps.size by omega]
      rw [this]
      rcases h with h | rfl
      · exact hv d h
      · exact .any
    · have : ((a.put dst v).tmps.getD t undef) = a.tmps.getD t undef := by
        cases dst with
        | none => rfl
        | some u =>
          have hne : u ≠ t := fun e => h1 (by rw [e])
          simp [Act.put, Array.getElem?_setIfInBounds_ne hne]
      rw [this]
      exact (x.rel t d h2).ext he

/-! ### Guards -/
theorem guard_spec {c s a w G} {ops : Array Oper} {g : Option (Nat × Bool)} {o : Oper} {K : Bool → Bool → Prop} (x : SR c s a w G) (hg : prepG ops o.guard = some g) (h : guardOf s g K) :
    ∃ gd g', K gd g' ∧ Region.wanted o (yielded ops a.tmps) = g' ∧ (g' = false → gd = true) := by
  unfold prepG at hg
  split at hg
  · rename_i hn
    cases hg
    exact ⟨_, _, h, by simp [Region.wanted, hn], by simp⟩
  · rename_i j b hj
    simp only [Option.map_eq_some_iff] at hg
    obtain ⟨t, ht, rfl⟩ := hg
    simp only [guardOf] at h
    have hy : yielded ops a.tmps j = match a.tmps.getD t undef with | .bool b => some b | _ => none := by
      unfold yielded
      rw [ht]
      simp only [Option.bind_some, Array.getD_eq_getD_getElem?]
      cases a.tmps[t]? with
      | none => rfl
      | some v => cases v <;> rfl
    split at h
    · rename_i x' hx
      obtain ⟨e, _⟩ := rv_v (x.rel t _ hx)
      refine ⟨_, _, h, ?_, by simp⟩
      simp only [Region.wanted, hj, hy, e]
      cases x' <;> cases b <;> rfl
    · rename_i g' x' hx
      refine ⟨_, _, h, ?_, by simp⟩
      have r := x.rel t _ hx
      generalize a.tmps.getD t undef = v at r hy
      cases r with
      | when hr hu =>
        cases g' with
        | true =>
          obtain ⟨e, _⟩ := rv_v (hr rfl)
          subst e
          simp only [Region.wanted, hj, hy]
          cases x' <;> cases b <;> rfl
        | false =>
          have := hu rfl
          subst this
          simp only [Region.wanted, hj, hy]
          rfl
    · exact h.elim

/-! ### A run of steps in text order -/
theorem list_sound {P : Program} {c : Ctx} {ops : Array Oper} {K : St → Prop} {Q : Exit → Act → World → Prop} (hk : ∀ s a w G, SR c s a w G → K s → Q .normal a w) :
    ∀ (l : List Oper) s a w G, SR c s a w G → goOps Ar.std P (l.map (prepIns P c.nt ops)) s K → wpList P ops Q l a w := by
  intro l
  induction l with
  | nil => intro s a w G x h; exact wpList_nil (hk s a w G x h)
  | cons o r ih =>
    intro s a w G x h
    simp only [List.map_cons, goOps, opA_std] at h
    unfold prepIns at h
    split at h
    · rename_i g hg
      split at h
      · rename_i hdst
        obtain ⟨gd, g', h, hwant, hgd⟩ := guard_spec x hg h
        obtain ⟨ow, eff, ⟨how, hwr, hk'⟩, h1, h2, h3⟩ := op_sound (fun _ => ⟨w, G, hpF s.hp, a, x.rels⟩) h
        refine wpList_step fun K' hK' => ?_
        split
        · rename_i hw
          rw [hw] at hwant; subst hwant
          refine h3 how rfl w G (hpF s.hp) a K' Q x.inv (fun _ _ => rfl) (fun j hj => hpF_ge (by omega)) x.rels fun v w' G' hv hi he => hK' _ _ ?_
          exact ih _ _ _ G' (x.app hdst hwr hv hi he) hk'
        · rename_i hw
          have hg' : g' = false := by rw [← hwant]; simpa using hw
          subst hg'
          obtain ⟨e1, e2, d, e3⟩ := h1 (hgd rfl)
          refine hK' _ _ (ih _ _ w G ?_ hk')
          have e4 : happ (hpF s.hp) s.hp.length eff = hpF s.hp := by
            rw [happ_app hwr, e1, e2]; simp [hset]
          refine x.app hdst hwr (fun d' hd' => ?_) (by rw [e4]; exact x.inv) (by rw [e4]; exact Ext.refl _ _ _)
          rw [e3] at hd'; cases hd'
          exact .when (by simp) (fun _ => rfl)
      · exact (by simp [guardOf, opE] at h : False).elim
    · exact (by simp [guardOf, opE] at h : False).elim

end Go.Proofs.Ytmnhoglkahmlaaa.Ab
