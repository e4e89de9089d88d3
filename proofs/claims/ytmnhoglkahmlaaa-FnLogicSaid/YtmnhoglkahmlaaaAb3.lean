/- Each step of the small language is what the machine does: steps that write nothing. -/
import Derived.Test.YtmnhoglkahmlaaaAb2
import Derived.Laws.Cells
import Derived.ChangeKeysEq
import Derived.Laws.IdiomCopy
import Derived.Laws.Small
import Derived.Laws.Strings
set_option linter.unusedSimpArgs false
set_option linter.unusedVariables false
set_option linter.unnecessarySimpa false
set_option linter.constructorNameAsVariable false
namespace Go.Proofs.Ytmnhoglkahmlaaa.Ab
open Go

def happ (h : Hp) (f : Nat) (eff : Eff) : Hp := fun i =>
  if f ≤ i ∧ i < f + eff.al.length then eff.al.getD (i - f) .dead else match eff.wr.find? (·.1 == i) with | some x => x.2 | none => h i

/-- What holds of the operands. -/
def Rel (ev : X → Option D) (w : World) (G : Gh) (h : Hp) (a : Act) : Prop := ∀ y x d, cvX y = some x → ev x = some d → Rv w G h (a.eval y) d

/-- A step of the machine that has an effect, wherever the things that it touches are as they were told. -/
def StepL (P : Program) (o : Oper) (ev : X → Option D) (hpR : Hp) (f : Nat) (eff : Eff) : Prop :=
  ∀ (w : World) (G : Gh) (h : Hp) (a : Act) (K : Act → World → Prop) (Q : Exit → Act → World → Prop), Inv w G h → (∀ i ∈ eff.tc, h i = hpR i) →
    (∀ j, j < eff.al.length → h (f + j) = .dead) → Rel ev w G h a →
    (∀ v w' G', (∀ d, eff.d = some d → Rv w' G' (happ h f eff) v d) → Inv w' G' (happ h f eff) → Ext w G h w' G' (happ h f eff) → K (a.put o.dst v) w') →
    o.wp P a w K Q

section
variable {P : Program} {w : World} {G : Gh} {h : Hp}

theorem wp_of_run {o : Oper} {a : Act} {K : Act → World → Prop} {Q : Exit → Act → World → Prop} {v : Value} {w' : World}
    (hr : (execOp a.eval o).run P w = .ok (.value v) w') (hk : K (a.put o.dst v) w') : o.wp P a w K Q := by
  unfold Oper.wp; rw [hr]; exact hk

theorem happ_pure (h : Hp) (f : Nat) (d : Option D) (tc : List Nat) : happ h f { d := d, tc := tc } = h := by
  funext i
  simp only [happ, List.length_nil, Nat.add_zero, List.find?_nil]
  rw [if_neg (by omega)]

/-- A step that only reads. -/
theorem StepL.pure {o : Oper} {ev : X → Option D} {hpR : Hp} {f : Nat} {d : D} {tc : List Nat}
    (hs : ∀ w G h a, Inv w G h → (∀ i ∈ tc, h i = hpR i) → Rel ev w G h a → ∃ v, (execOp a.eval o).run P w = .ok (.value v) w ∧ Rv w G h v d) :
    StepL P o ev hpR f { d := some d, tc := tc } := by
  intro w G h a K Q hi ht _ hr hk
  obtain ⟨v, e, r⟩ := hs w G h a hi ht hr
  rw [happ_pure] at hk
  exact wp_of_run e (hk v w G (fun d' e' => by cases e'; exact r) hi (Ext.refl _ _ _))

theorem Rv.when_true {v : Value} {d : D} (r : Rv w G h v d) : Rv w G h v (.when true d) := .when (fun _ => r) (fun e => by cases e)

/-! ### Inversions -/
theorem rv_v {x y : Value} (r : Rv w G h x (.e (.v y))) : x = y ∧ okV y = true := by
  cases r with
  | e r => cases r with | v hv => exact ⟨rfl, hv⟩

theorem rv_int {x : Value} {k : IntKind} {n : Int} (r : Rv w G h x (.e (.v (.int k n)))) : x = .int k n ∧ k.min ≤ n ∧ n ≤ k.max := by
  obtain ⟨rfl, hv⟩ := rv_v r
  exact ⟨rfl, by simpa [okV] using hv⟩

theorem rv_agg {x : Value} {ds : List D} (r : Rv w G h x (.agg ds)) : ∃ cs : Array Value, x = .agg cs ∧ cs.size = ds.length ∧ (∀ (j : Nat) c, cs[j]? = some c → c.oneCell' = true) ∧
    ∀ (j : Nat) c d, cs[j]? = some c → ds[j]? = some d → Rv w G h c d := by
  cases r with | agg hl h1 hr => exact ⟨_, rfl, hl, h1, hr⟩

theorem rv_tup {x : Value} {ds : List D} (r : Rv w G h x (.tup ds)) : ∃ cs : Array Value, x = .tuple cs ∧ cs.size = ds.length ∧
    ∀ (j : Nat) c d, cs[j]? = some c → ds[j]? = some d → Rv w G h c d := by
  cases r with | tup hl hr => exact ⟨_, rfl, hl, hr⟩

/-- A slice value, and its published elements. -/
theorem rv_list {x : Value} {d : D} {es : List (List E)} (r : Rv w G h x d) (hl : d.list = some es) :
    (∃ a, x = .slice a 0 0 ∧ es = [] ∧ ∀ y, a = some y → y.spot = none) ∨ RvE w G.pub x (.sl es) := by
  cases d with
  | e y => cases y <;> simp [D.list] at hl; subst hl; cases r with | e r => exact .inr r
  | own i ys => simp [D.list] at hl; subst hl; cases r with | own hx _ _ => exact .inr hx
  | zs => simp [D.list] at hl; subst hl; cases r with | zs ha => exact .inl ⟨_, rfl, rfl, ha⟩
  | _ => simp [D.list] at hl

theorem rve_sl {x : Value} {es : List (List E)} {pub : Nat → Nat → Prop} (r : RvE w pub x (.sl es)) :
    (∃ (a : Option Addr) (cap : Nat), x = .slice a 0 cap ∧ es = [] ∧ (a = none → cap = 0)) ∨ ∃ (b off cap k : Nat) (u : Nat → Value), x = .slice (some ⟨b, off, none⟩) es.length cap ∧ es.length ≤ cap ∧ es.length ≤ maxN ∧ (∀ e ∈ es, e.length = k) ∧
      (∀ j, j < es.length * k → pub b (off + j) ∧ w.cell? ⟨b, off + j, none⟩ = some (u j)) ∧ (∀ j d, es.flatten[j]? = some d → RvE w pub (u j) d) := by
  cases r with
  | nils h => exact .inl ⟨_, _, rfl, rfl, h⟩
  | sl u hn hc hm hk hp hr => subst hn; exact .inr ⟨_, _, _, _, u, rfl, hc, hm, hk, hp, hr⟩

theorem flatten_get {es : List (List E)} {k : Nat} (hk : ∀ e ∈ es, e.length = k) : ∀ (i : Nat) (e : List E) (j : Nat), es[i]? = some e → j < k → es.flatten[i * k + j]? = e[j]? := by
  induction es with
  | nil => intro i e j he; simp at he
  | cons x es ih =>
    intro i e j he hj
    have hx : x.length = k := hk x (by simp)
    cases i with
    | zero =>
      simp at he; subst he
      simp [List.getElem?_append_left (show j < x.length by omega)]
    | succ i =>
      simp at he
      rw [List.flatten_cons, List.getElem?_append_right (by rw [hx, Nat.succ_mul]; omega), hx, show (i + 1) * k + j - k = i * k + j by rw [Nat.succ_mul]; omega]
      exact ih (fun e he => hk e (by simp [he])) i e j he hj

theorem flatten_len {es : List (List E)} {k : Nat} (hk : ∀ e ∈ es, e.length = k) : es.flatten.length = es.length * k := by
  induction es with
  | nil => simp
  | cons x es ih => simp [ih (fun e he => hk e (by simp [he])), hk x (by simp), Nat.succ_mul, Nat.add_comm]

theorem addr_add (b off n : Nat) : (⟨b, off, none⟩ : Addr).add n = ⟨b, off + n, none⟩ := by unfold Addr.add; split <;> simp_all

theorem info_of_cells {P : Program} {t : TypeId} (h : P.cellsOf t ≠ 0) : ∃ i, P.info? t = some i := by
  unfold Program.cellsOf at h
  cases hi : P.info? t with
  | none => simp [hi] at h
  | some i => exact ⟨i, rfl⟩

theorem info_of_under {P : Program} {t : TypeId} {d : TypeDesc} (h : P.underlying t = some d) : ∃ i, P.info? t = some i := by
  unfold Program.underlying at h
  cases hi : P.info? t with
  | none => simp [hi] at h
  | some i => exact ⟨i, rfl⟩

theorem run_size {P : Program} {w : World} {t : TypeId} (h : P.cellsOf t ≠ 0) : (sizeOf t).run P w = .ok (P.cellsOf t) w := by
  obtain ⟨i, hi⟩ := info_of_cells h
  exact run_sizeOf w hi

theorem run_isAgg' {P : Program} {w : World} {t : TypeId} {d : TypeDesc} (h : P.underlying t = some d) : (isAgg t).run P w = .ok (isAggB P t) w := by
  simp only [isAgg, Sem.run_bind, run_underlying h, Result.andThen, isAggB, h]
  cases d <;> rfl

/-! ### Operands -/
theorem evG_spec {g : Bool} {x : Option D} {K : Prop → D → Prop} (hk : evG g x K) :
    ∃ o d, K o d ∧ ∀ {w G h v}, (∀ d', x = some d' → Rv w G h v d') → g = true → o → Rv w G h v d := by
  unfold evG at hk
  split at hk
  · exact hk.elim
  · rename_i g' d
    refine ⟨_, d, hk, fun hr hg ho => ?_⟩
    have := hr _ rfl
    cases this with | when hr _ => exact hr (gImp_iff.1 ho hg)
  · rename_i d _
    exact ⟨_, d, hk, fun hr _ _ => hr d rfl⟩

theorem evGs_spec {g : Bool} : ∀ {xs : List (Option D)} {K : Prop → List D → Prop}, evGs g xs K →
    ∃ o ds, K o ds ∧ ds.length = xs.length ∧ ∀ {w G h}, g = true → o → ∀ (j : Nat) v d, (∀ d', xs[j]? = some (some d') → Rv w G h v d') → ds[j]? = some d → Rv w G h v d := by
  intro xs
  induction xs with
  | nil => intro K hk; exact ⟨_, _, hk, rfl, fun _ _ j v d _ hd => by simp at hd⟩
  | cons x r ih =>
    intro K hk
    obtain ⟨o, d, hk, h1⟩ := evG_spec hk
    obtain ⟨o', ds, hk, hl, h2⟩ := ih hk
    refine ⟨_, _, hk, by simp [hl], fun hg ⟨ho, ho'⟩ j v d' hr hd => ?_⟩
    cases j with
    | zero => simp at hd; subst hd; exact h1 (fun d' e => hr d' (by simp [e])) hg ho
    | succ j => exact h2 hg ho' j v d' (fun d' e => hr d' (by simpa using e)) (by simpa using hd)

theorem cvD_rel {w : World} {G : Gh} {h : Hp} {v : Value} {d : D} (hc : cvD v = some d) : Rv w G h v d := by
  unfold cvD at hc
  split at hc
  · cases hc; exact .zs (by simp)
  · split at hc
    · rename_i hv; cases hc; exact .e (.v hv)
    · cases hc

theorem rel_of {w : World} {G : Gh} {h : Hp} {a : Act} {ev : X → Option D} (hc : ∀ d, ev (.c d) = some d) (hs : ∀ t d, ev (.s t) = some d → Rv w G h (a.tmps.getD t undef) d) : Rel ev w G h a := by
  intro y x d hy hx
  cases y with
  | tmp t => simp [cvX] at hy; subst hy; exact hs t d hx
  | const v =>
    simp only [cvX, Option.map_eq_some_iff] at hy
    obtain ⟨d', h1, rfl⟩ := hy
    rw [hc] at hx; cases hx
    exact cvD_rel h1
  | global g => simp [cvX] at hy
  | func f => simp [cvX] at hy; subst hy; rw [hc] at hx; cases hx; exact .fn (first := #[]) (caps := #[]) rfl (by simp) rfl (by simp)
end

/-! ### Numbers, bools, strings -/
theorem wrap_in {k : IntKind} {n : Int} (h : inR k n) : k.wrap n = n ∧ k.min ≤ n ∧ n ≤ k.max := by
  cases k <;> simp [inR, IntKind.min, IntKind.max, IntKind.signed, IntKind.bits] at h <;> simp [IntKind.wrap, IntKind.min, IntKind.max, IntKind.signed, IntKind.bits] <;> (try split) <;> omega

theorem rv_mkint {w G h} {k : IntKind} {n : Int} (h1 : k.min ≤ n ∧ n ≤ k.max) : Rv w G h (.int k n) (.e (.v (.int k n))) := .e (.v (by simp [okV, h1]))
theorem rv_mkbool {w G h} (b : Bool) : Rv w G h (.bool b) (.bool b) := .e (.v rfl)
theorem rv_mkstr {w G h} {l : List UInt8} (hl : l.length ≤ maxN) : Rv w G h (.string ⟨⟨l⟩⟩) (.str l) := .e (.v (by simp [okV, ByteArray.size]; exact hl))

theorem bytes_eq (s : ByteArray) : s = ⟨⟨s.data.toList⟩⟩ := rfl


theorem binE_spec {P : Program} {op : BinOp} {x y : D} {K : Prop → D → Prop} (hk : binE op x y K) :
    ∃ p d, K p d ∧ ∀ {w G h vx vy} (t : TypeId) (X Y : Operand), Rv w G h vx x → Rv w G h vy y → p →
      ∃ v, (do eqGuard op t X Y vx vy; binOp op t vx vy : Sem Value).run P w = .ok v w ∧ Rv w G h v d := by
  unfold binE at hk
  split at hk
  · rename_i k a k' b
    cases op <;> simp only at hk <;> first | exact hk.elim | skip
    all_goals
      refine ⟨_, _, hk, fun t X Y hx hy hp => ?_⟩
      obtain ⟨rfl, hx1, hx2⟩ := rv_int hx
      obtain ⟨rfl, hy1, hy2⟩ := rv_int hy
    case add => obtain ⟨rfl, hp⟩ := hp; obtain ⟨h1, h2⟩ := wrap_in hp; exact ⟨_, by simp [eqGuard, binOp, Op.intArith, h1], rv_mkint h2⟩
    case sub => obtain ⟨rfl, hp⟩ := hp; obtain ⟨h1, h2⟩ := wrap_in hp; exact ⟨_, by simp [eqGuard, binOp, Op.intArith, h1], rv_mkint h2⟩
    case mul => obtain ⟨rfl, hp⟩ := hp; obtain ⟨h1, h2⟩ := wrap_in hp; exact ⟨_, by simp [eqGuard, binOp, Op.intArith, h1], rv_mkint h2⟩
    case quo =>
      obtain ⟨rfl, h0, h1, hr⟩ := hp
      have hr' : inR k (a / b) := by
        have e1 : 0 ≤ a / b := Int.ediv_nonneg h0 (by omega)
        have e2 : a / b ≤ a := Int.ediv_le_self b h0
        cases k <;> simp [inR, IntKind.min, IntKind.max, IntKind.signed, IntKind.bits] at hr ⊢ <;> omega
      obtain ⟨h2, h3⟩ := wrap_in hr'
      exact ⟨_, by simp [eqGuard, binOp, Op.intDiv, show b ≠ 0 by omega, Int.tdiv_eq_ediv_of_nonneg h0, h2], rv_mkint h3⟩
    case rem =>
      obtain ⟨rfl, h0, h1⟩ := hp
      have e1 : 0 ≤ a % b := Int.emod_nonneg _ (by omega)
      have e2 : a % b ≤ a := by
        rcases Int.lt_or_le a b with h | h
        · rw [Int.emod_eq_of_lt h0 h]; exact Int.le_refl _
        · have := Int.emod_lt_of_pos a h1; omega
      have e3 : k.min ≤ 0 := by cases k <;> decide
      exact ⟨.int k (a % b), by simp [eqGuard, binOp, Op.intDiv, show b ≠ 0 by omega, Int.tmod_eq_emod_of_nonneg h0], rv_mkint ⟨by omega, by omega⟩⟩
    case eql => obtain rfl := hp; exact ⟨.bool (decide (a = b)), by simp only [eqGuard, binOp, Op.intCmp]; simp; by_cases e : a = b <;> simp [e], rv_mkbool _⟩
    case neq => obtain rfl := hp; exact ⟨.bool (!decide (a = b)), by simp only [eqGuard, binOp, Op.intCmp]; simp; by_cases e : a = b <;> simp [e], rv_mkbool _⟩
    all_goals (obtain rfl := hp; exact ⟨_, by simp [eqGuard, binOp, Op.intCmp], rv_mkbool _⟩)
  · rename_i a b
    cases op <;> simp only at hk <;> first | exact hk.elim | skip
    all_goals
      refine ⟨_, _, hk, fun t X Y hx hy hp => ?_⟩
      obtain ⟨rfl, _⟩ := rv_v hx
      obtain ⟨rfl, _⟩ := rv_v hy
    · have hs : ¬ (((a.size + b.size : Nat) : Int) > IntKind.i64.max) := by
        have e1 : a.data.toList.length = a.size := rfl
        have e2 : b.data.toList.length = b.size := rfl
        rw [e1, e2] at hp
        simp only [maxN] at hp
        simp only [IntKind.max, IntKind.signed, IntKind.bits]
        simp
        omega
      refine ⟨.string (a ++ b), ?_, ?_⟩
      · simp only [eqGuard, binOp, Op.stringOp]
        rw [if_neg hs]
        simp
      · have : a ++ b = ⟨⟨a.data.toList ++ b.data.toList⟩⟩ := by
          apply ByteArray.ext
          apply Array.ext'
          simp [ByteArray.data_append]
        rw [this]
        exact rv_mkstr (by simp at hp ⊢; exact hp)
    · exact ⟨.bool (decide (a.data.toList = b.data.toList)), by simp only [eqGuard, binOp, Op.stringOp, ByteArray.toList_eq]; by_cases e : a.data = b.data <;> simp [e], rv_mkbool _⟩
    · exact ⟨.bool (!decide (a.data.toList = b.data.toList)), by simp only [eqGuard, binOp, Op.stringOp, ByteArray.toList_eq]; by_cases e : a.data = b.data <;> simp [e], rv_mkbool _⟩
  · exact hk.elim
end Go.Proofs.Ytmnhoglkahmlaaa.Ab
