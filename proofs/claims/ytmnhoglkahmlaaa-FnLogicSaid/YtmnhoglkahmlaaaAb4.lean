/- Each step of the small language is what the machine does: the steps that only read. -/
import Derived.Test.YtmnhoglkahmlaaaAb3
import Derived.Laws.Slices
import Derived.Laws.BytesString
set_option linter.unusedSimpArgs false
set_option linter.unusedVariables false
set_option linter.unnecessarySimpa false
set_option linter.constructorNameAsVariable false
namespace Go.Proofs.Ytmnhoglkahmlaaa.Ab
open Go
set_option linter.unusedVariables false

def Sound (P : Program) (o : Oper) (ev : X → Option D) (hpR : Hp) (f : Nat) (gd g : Bool) (K : Prop → Eff → Prop) : Prop :=
  ∃ ow eff, K ow eff ∧ (gd = true → eff.al = [] ∧ eff.wr = [] ∧ ∃ d, eff.d = some (.when g d)) ∧ (∀ x ∈ eff.wr, x.1 ∈ eff.tc) ∧ (ow → g = true → StepL P o ev hpR f eff)

section
variable {P : Program} {o : Oper} {ev : X → Option D} {hpR : Hp} {f : Nat} {dr gd g : Bool} {K : Prop → Eff → Prop}

theorem Sound.pure {ow : Prop} {d : D} {tc : List Nat} (hk : K ow { d := some (if gd then .when g d else d), tc := tc })
    (hs : ow → g = true → ∀ w G h a, Inv w G h → (∀ i ∈ tc, h i = hpR i) → Rel ev w G h a → ∃ v, (execOp a.eval o).run P w = .ok (.value v) w ∧ Rv w G h v d) :
    Sound P o ev hpR f gd g K := by
  refine ⟨ow, _, hk, fun hg => ⟨rfl, rfl, d, by rw [if_pos hg]⟩, by simp, fun ho hg => ?_⟩
  subst hg
  refine StepL.pure fun w G h a hi ht hr => ?_
  obtain ⟨v, e, r⟩ := hs ho rfl w G h a hi ht hr
  refine ⟨v, e, ?_⟩
  split
  · exact r.when_true
  · exact r

theorem Sound.fx {p : Prop} {d : D} (hk : K (gImp g p) { d := some (if gd then .when g d else d) })
    (hs : p → g = true → ∀ w G h a, Inv w G h → Rel ev w G h a → ∃ v, (execOp a.eval o).run P w = .ok (.value v) w ∧ Rv w G h v d) :
    Sound P o ev hpR f gd g K :=
  Sound.pure (tc := []) hk fun ho hg w G h a hi _ hr => hs (gImp_iff.1 ho hg) hg w G h a hi hr

theorem exec_v {s : Sem Value} {w w' : World} {v : Value} (h : s.run P w = .ok v w') : (do pure (Next.value (← s)) : Sem Next).run P w = .ok (.value v) w' := by
  simp [h, Result.andThen]

variable {dst : Option Nat} {ty : TypeId} {pos : String} {after : Array Edge} {gu : Option (Nat × Bool)}

theorem s_mov {y : Operand} {x : X} (hy : cvX y = some x) {op : Op} (hop : op = .move y ∨ op = .assign y)
    (hk : opE P ev hpR f dr gd g (.mov x) K) : Sound P ⟨dst, op, ty, pos, after, gu⟩ ev hpR f gd g K := by
  simp only [opE] at hk
  obtain ⟨ow, d, hk1, hs⟩ := evG_spec hk
  refine Sound.pure (tc := []) hk1 fun ho hg w G h a hi _ hr => ⟨a.eval y, ?_, hs (fun d' e => hr y x d' hy e) hg ho⟩
  rcases hop with rfl | rfl <;> simp [execOp]

theorem s_pick {yc ya yb : Operand} {c a b : X} (hc : cvX yc = some c) (ha : cvX ya = some a) (hb : cvX yb = some b)
    (hk : opE P ev hpR f dr gd g (.pick c a b) K) : Sound P ⟨dst, .pick yc ya yb, ty, pos, after, gu⟩ ev hpR f gd g K := by
  simp only [opE] at hk
  obtain ⟨o1, d1, hk1, h1⟩ := evG_spec hk
  split at hk1
  case h_2 => exact hk1.elim
  rename_i c'
  obtain ⟨o2, d2, hk2, h2⟩ := evG_spec hk1
  obtain ⟨o3, d3, hk3, h3⟩ := evG_spec hk2
  split at hk3
  case h_2 => exact hk3.elim
  rename_i a' b'
  refine Sound.pure (tc := []) hk3 fun ⟨p1, p2, p3⟩ hg w G h r hi _ hr => ?_
  obtain ⟨e1, _⟩ := rv_v (h1 (fun d' e => hr yc c d' hc e) hg p1)
  subst hg
  cases c' with
  | true =>
    obtain ⟨e2, _⟩ := rv_v (h2 (fun d' e => hr ya a d' ha e) rfl p2)
    exact ⟨.bool a', by simp [execOp, e1, asBool, e2], rv_mkbool _⟩
  | false =>
    obtain ⟨e3, _⟩ := rv_v (h3 (fun d' e => hr yb b d' hb e) rfl p3)
    exact ⟨.bool b', by simp [execOp, e1, asBool, e3], rv_mkbool _⟩

theorem s_bin {op : BinOp} {t t' : TypeId} {yx yy : Operand} {x y : X} (hx : cvX yx = some x) (hy : cvX yy = some y)
    (hk : opE P ev hpR f dr gd g (.bin op x y) K) : Sound P ⟨dst, .binOp op t yx yy t', ty, pos, after, gu⟩ ev hpR f gd g K := by
  simp only [opE] at hk
  obtain ⟨o1, d1, hk1, h1⟩ := evG_spec hk
  obtain ⟨o2, d2, hk2, h2⟩ := evG_spec hk1
  obtain ⟨p, d, hk3, hs⟩ := binE_spec (P := P) hk2
  refine Sound.pure (tc := []) hk3 fun ⟨p1, p2, p3⟩ hg w G h a hi _ hr => ?_
  obtain ⟨v, e, r⟩ := hs t yx yy (h1 (fun d' e => hr yx x d' hx e) hg p1) (h2 (fun d' e => hr yy y d' hy e) hg p2) (gImp_iff.1 p3 hg)
  exact ⟨v, exec_v e, r⟩

theorem s_binb {op : BinOp} {t t' : TypeId} {yx yy : Operand} {x y : X} (hx : cvX yx = some x) (hy : cvX yy = some y) (ht : P.underlying t = some .bool)
    (hk : opE P ev hpR f dr gd g (.binb op x y) K) : Sound P ⟨dst, .binOp op t yx yy t', ty, pos, after, gu⟩ ev hpR f gd g K := by
  simp only [opE] at hk
  obtain ⟨o1, d1, hk1, h1⟩ := evG_spec hk
  obtain ⟨o2, d2, hk2, h2⟩ := evG_spec hk1
  split at hk2
  case h_3 => exact hk2.elim
  all_goals
    rename_i a b
    refine Sound.pure (tc := []) hk2 fun ⟨p1, p2⟩ hg w G h r hi _ hr => ?_
    obtain ⟨e1, _⟩ := rv_v (h1 (fun d' e => hr yx x d' hx e) hg p1)
    obtain ⟨e2, _⟩ := rv_v (h2 (fun d' e => hr yy y d' hy e) hg p2)
  · exact ⟨.bool (a == b), exec_v (w' := w) (by simp [e1, e2, eqGuard, binOp, run_equal_bool _ t a b ht]), rv_mkbool _⟩
  · exact ⟨.bool (a != b), exec_v (w' := w) (by simp [e1, e2, eqGuard, binOp, run_equal_bool _ t a b ht, bne]), rv_mkbool _⟩

theorem run_nil_eq (P : Program) (w : World) {t e : TypeId} (x : Option Addr) (n c : Nat) (ht : P.underlying t = some (.slice e)) : (Op.equal t (.slice x n c) (.slice none 0 0)).run P w = .ok x.isNone w := by
  show (Op.equalIn (9999 + 1) t (.slice x n c) (.slice none 0 0)).run P w = .ok x.isNone w
  generalize 9999 = d
  cases x <;> simp [Op.equalIn, run_underlying ht, Result.andThen]

theorem s_isnil {op : BinOp} {t t' e : TypeId} {yx yy : Operand} {x : X} {ne : Bool} (hx : cvX yx = some x) (hy : cvX yy = some (.c .zs)) (ht : P.underlying t = some (.slice e)) (hop : (op = .eql ∧ ne = false) ∨ (op = .neq ∧ ne = true))
    (hk : opE P ev hpR f dr gd g (.isnil ne x) K) : Sound P ⟨dst, .binOp op t yx yy t', ty, pos, after, gu⟩ ev hpR f gd g K := by
  have hny : ∀ a : Act, a.eval yy = .slice none 0 0 := fun a => by
    cases yy with
    | const v =>
      simp only [cvX, Option.map_eq_some_iff] at hy
      obtain ⟨d, h1, h2⟩ := hy
      cases h2
      unfold cvD at h1
      split at h1
      · rfl
      · split at h1 <;> cases h1
    | _ => simp [cvX] at hy
  simp only [opE] at hk
  obtain ⟨o1, d1, hk1, h1⟩ := evG_spec hk
  have run : ∀ {w : World} {a : Act} {b : Addr} {n c : Nat}, a.eval yx = .slice (some b) n c → (execOp a.eval ⟨dst, .binOp op t yx yy t', ty, pos, after, gu⟩).run P w = .ok (.value (.bool ne)) w := fun {w a b n c} e => by
    rcases hop with ⟨rfl, rfl⟩ | ⟨rfl, rfl⟩
    · exact exec_v (w' := w) (by simp [e, hny a, eqGuard, binOp, run_nil_eq P w (some b) n c ht, Result.andThen])
    · exact exec_v (w' := w) (by simp [e, hny a, eqGuard, binOp, run_nil_eq P w (some b) n c ht, Result.andThen])
  split at hk1
  · rename_i i n k
    split at hk1
    case h_2 => exact hk1.elim
    rename_i kk ds hds
    refine Sound.pure hk1 fun p1 hg w G h a hi ht hr => ?_
    have hv := h1 (fun d' e => hr yx x d' hx e) hg p1
    have hb : h i = .vec true kk ds := by rw [ht i (by simp), hds]
    obtain ⟨v, hev⟩ : ∃ v, v = a.eval yx := ⟨_, rfl⟩
    rw [← hev] at hv
    cases hv with
    | vec hd hm hc hvo =>
      obtain ⟨_, _, _, q⟩ := hvo _ _ _ hb
      obtain ⟨rfl, _⟩ := q rfl
      exact ⟨_, run hev.symm, rv_mkbool _⟩
  · refine Sound.pure (tc := []) hk1 fun p1 hg w G h a hi _ hr => ?_
    have hv := h1 (fun d' e => hr yx x d' hx e) hg p1
    obtain ⟨v, hev⟩ : ∃ v, v = a.eval yx := ⟨_, rfl⟩
    rw [← hev] at hv
    cases hv with
    | bs _ _ _ _ => exact ⟨_, run hev.symm, rv_mkbool _⟩
  · refine Sound.pure (tc := []) hk1 fun p1 hg w G h a hi _ hr => ?_
    have hv := h1 (fun d' e => hr yx x d' hx e) hg p1
    obtain ⟨v, hev⟩ : ∃ v, v = a.eval yx := ⟨_, rfl⟩
    rw [← hev] at hv
    cases hv with
    | e hv => cases hv with | sl u hn hc hm hk hp hr' => exact ⟨_, run hev.symm, rv_mkbool _⟩
  · exact hk1.elim

theorem s_un {op : UnOp} {t : TypeId} {yx : Operand} {x : X} (hx : cvX yx = some x)
    (hk : opE P ev hpR f dr gd g (.un op x) K) : Sound P ⟨dst, .unOp op t yx, ty, pos, after, gu⟩ ev hpR f gd g K := by
  simp only [opE] at hk
  obtain ⟨o1, d1, hk1, h1⟩ := evG_spec hk
  split at hk1
  · rename_i b
    refine Sound.pure (tc := []) hk1 fun p1 hg w G h r hi _ hr => ?_
    obtain ⟨e1, _⟩ := rv_v (h1 (fun d' e => hr yx x d' hx e) hg p1)
    exact ⟨.bool (!b), exec_v (w' := w) (by simp [e1, Op.unary]), rv_mkbool _⟩
  · rename_i k n
    refine Sound.fx hk1 fun ⟨p1, p2⟩ hg w G h r hi hr => ?_
    obtain ⟨e1, _⟩ := rv_v (h1 (fun d' e => hr yx x d' hx e) hg p1)
    obtain ⟨q1, q2⟩ := wrap_in p2
    exact ⟨.int k (-n), exec_v (w' := w) (by simp [e1, Op.unary, Op.intArith, q1]), rv_mkint q2⟩
  · exact hk1.elim

theorem s_convi {s d : TypeId} {k : IntKind} {k' : IntKind} {yx : Operand} {x : X} (hx : cvX yx = some x) (hs : P.underlying s = some (.int k')) (hd : P.underlying d = some (.int k))
    (hk : opE P ev hpR f dr gd g (.convi k x) K) : Sound P ⟨dst, .convert s d yx, ty, pos, after, gu⟩ ev hpR f gd g K := by
  simp only [opE] at hk
  obtain ⟨o1, d1, hk1, h1⟩ := evG_spec hk
  split at hk1
  · rename_i kk n
    refine Sound.fx hk1 fun ⟨p1, p2⟩ hg w G h r hi hr => ?_
    obtain ⟨e1, _⟩ := rv_v (h1 (fun d' e => hr yx x d' hx e) hg p1)
    obtain ⟨q1, q2⟩ := wrap_in p2
    exact ⟨.int k n, exec_v (w' := w) (by simp [convert, run_underlying hs, run_underlying hd, Result.andThen, e1, Conv.intToInt, q1]), rv_mkint q2⟩
  · exact hk1.elim

theorem s_convss {s d : TypeId} {yx : Operand} {x : X} (hx : cvX yx = some x) (hs : P.underlying s = some .string) (hd : P.underlying d = some .string)
    (hk : opE P ev hpR f dr gd g (.convss x) K) : Sound P ⟨dst, .convert s d yx, ty, pos, after, gu⟩ ev hpR f gd g K := by
  simp only [opE] at hk
  obtain ⟨o1, d1, hk1, h1⟩ := evG_spec hk
  split at hk1
  · rename_i s'
    refine Sound.pure (tc := []) hk1 fun p1 hg w G h r hi _ hr => ?_
    obtain ⟨e1, e2⟩ := rv_v (h1 (fun d' e => hr yx x d' hx e) hg p1)
    exact ⟨.string s', exec_v (w' := w) (by simp [convert, run_underlying hs, run_underlying hd, Result.andThen, e1]), .e (.v e2)⟩
  · exact hk1.elim

theorem s_ext {t : TypeId} {i : Nat} {yx : Operand} {x : X} (hx : cvX yx = some x)
    (hk : opE P ev hpR f dr gd g (.ext i x) K) : Sound P ⟨dst, .extract yx i, ty, pos, after, gu⟩ ev hpR f gd g K := by
  simp only [opE] at hk
  obtain ⟨o1, d1, hk1, h1⟩ := evG_spec hk
  split at hk1
  · rename_i ds
    refine Sound.fx hk1 fun ⟨p1, p2⟩ hg w G h r hi hr => ?_
    obtain ⟨cs, e1, hl, h2⟩ := rv_tup (h1 (fun d' e => hr yx x d' hx e) hg p1)
    have hc : cs[i]? = some cs[i] := by simp [show i < cs.size by omega]
    refine ⟨cs[i], exec_v (w' := w) (by simp [e1, Instr.extract, hc]), h2 i _ _ hc (by simp [p2, List.getD])⟩
  · exact hk1.elim

theorem s_mn {yx yy : Operand} {x y : X} {ts : Array TypeId} (hx : cvX yx = some x) (hy : cvX yy = some y)
    (hk : opE P ev hpR f dr gd g (.mn x y) K) : Sound P ⟨dst, .call { callee := .builtin .min, args := #[yx, yy], argTypes := ts }, ty, pos, after, gu⟩ ev hpR f gd g K := by
  simp only [opE] at hk
  obtain ⟨o1, d1, hk1, h1⟩ := evG_spec hk
  obtain ⟨o2, d2, hk2, h2⟩ := evG_spec hk1
  split at hk2
  · rename_i k a k' b
    refine Sound.fx hk2 fun ⟨p1, p2, p3⟩ hg w G h r hi hr => ?_
    subst p3
    obtain ⟨e1, q1, q2⟩ := rv_int (h1 (fun d' e => hr yx x d' hx e) hg p1)
    obtain ⟨e2, q3, q4⟩ := rv_int (h2 (fun d' e => hr yy y d' hy e) hg p2)
    exact ⟨.int k (min a b), by simp [execOp, resolve, invoke, builtin, e1, e2, Builtin.min_, Builtin.min2]; split <;> omega, rv_mkint (by omega)⟩
  · exact hk2.elim

theorem s_mx {yx yy : Operand} {x y : X} {ts : Array TypeId} (hx : cvX yx = some x) (hy : cvX yy = some y)
    (hk : opE P ev hpR f dr gd g (.mx x y) K) : Sound P ⟨dst, .call { callee := .builtin .max, args := #[yx, yy], argTypes := ts }, ty, pos, after, gu⟩ ev hpR f gd g K := by
  simp only [opE] at hk
  obtain ⟨o1, d1, hk1, h1⟩ := evG_spec hk
  obtain ⟨o2, d2, hk2, h2⟩ := evG_spec hk1
  split at hk2
  · rename_i k a k' b
    refine Sound.fx hk2 fun ⟨p1, p2, p3⟩ hg w G h r hi hr => ?_
    subst p3
    obtain ⟨e1, q1, q2⟩ := rv_int (h1 (fun d' e => hr yx x d' hx e) hg p1)
    obtain ⟨e2, q3, q4⟩ := rv_int (h2 (fun d' e => hr yy y d' hy e) hg p2)
    exact ⟨.int k (max a b), by simp [execOp, resolve, invoke, builtin, e1, e2, Builtin.max_, Builtin.max2]; split <;> omega, rv_mkint (by omega)⟩
  · exact hk2.elim

theorem xs_get {ys : List Operand} : ∀ {xs : List X}, xs? ys = some xs → xs.length = ys.length ∧ ∀ (j : Nat) y, ys[j]? = some y → ∃ x, xs[j]? = some x ∧ cvX y = some x := by
  induction ys with
  | nil => intro xs h; simp [xs?] at h; subst h; simp
  | cons y r ih =>
    intro xs h
    simp only [xs?, Option.bind_eq_some_iff, Option.map_eq_some_iff] at h
    obtain ⟨x, hx, xs', hxs, rfl⟩ := h
    obtain ⟨hl, hg⟩ := ih hxs
    refine ⟨by simp [hl], fun j y' hj => ?_⟩
    cases j with
    | zero => simp at hj; subst hj; exact ⟨x, by simp, hx⟩
    | succ j => simpa using hg j y' (by simpa using hj)

/-- Several operands at once. -/
theorem rel_list {ys : Array Operand} {xs : List X} {o : Prop} {ds : List D} (hx : xs? ys.toList = some xs) (hl : ds.length = (xs.map ev).length)
    (h1 : ∀ {w G h}, g = true → o → ∀ (j : Nat) v d, (∀ d', (xs.map ev)[j]? = some (some d') → Rv w G h v d') → ds[j]? = some d → Rv w G h v d)
    {w G h} {a : Act} (hr : Rel ev w G h a) (hg : g = true) (ho : o) :
    (ys.map a.eval).size = ds.length ∧ ∀ (j : Nat) v d, (ys.map a.eval)[j]? = some v → ds[j]? = some d → Rv w G h v d := by
  obtain ⟨hl', hg'⟩ := xs_get hx
  refine ⟨by simp at hl hl' ⊢; omega, fun j v d hv hd => ?_⟩
  simp only [Array.getElem?_map, Option.map_eq_some_iff] at hv
  obtain ⟨y, hy, rfl⟩ := hv
  obtain ⟨x, hx1, hx2⟩ := hg' j y (by simpa using hy)
  exact h1 hg ho j _ d (fun d' e => hr y x d' hx2 (by simpa [hx1] using e)) hd

theorem s_mkf {fn : Fn} {ya yc : Array Operand} {a c : List X} (ha : xs? ya.toList = some a) (hc : xs? yc.toList = some c)
    (hk : opE P ev hpR f dr gd g (.mkf fn a c) K) : Sound P ⟨dst, .makeFunc fn ya yc, ty, pos, after, gu⟩ ev hpR f gd g K := by
  simp only [opE] at hk
  obtain ⟨o1, d1, hk1, hl1, h1⟩ := evGs_spec hk
  obtain ⟨o2, d2, hk2, hl2, h2⟩ := evGs_spec hk1
  refine Sound.pure (tc := []) hk2 fun ⟨p1, p2⟩ hg w G h r hi _ hr => ?_
  obtain ⟨q1, q2⟩ := rel_list ha hl1 h1 hr hg p1
  obtain ⟨q3, q4⟩ := rel_list hc hl2 h2 hr hg p2
  exact ⟨_, exec_v (w' := w) (by simp [Instr.makeFunc]), .fn q1 q2 q3 q4⟩

theorem str_bound {s : ByteArray} (h : okV (.string s) = true) : s.data.toList.length ≤ maxN := by
  have : s.size ≤ maxN := of_decide_eq_true h
  exact this

theorem s_lens {t : TypeId} {yx : Operand} {x : X} (hx : cvX yx = some x) (ht : P.underlying t = some .string) (hf : dr = false → ∃ w G h a, Rel ev w G h a)
    (hk : opE P ev hpR f dr gd g (.lens x) K) : Sound P ⟨dst, .call { callee := .builtin .len, args := #[yx], argTypes := #[t] }, ty, pos, after, gu⟩ ev hpR f gd g K := by
  simp only [opE] at hk
  obtain ⟨o1, d1, hk1, h1⟩ := evG_spec hk
  split at hk1
  · rename_i s
    refine Sound.pure (tc := []) (hk1 fun hd hg ho => ?_) fun p1 hg w G h r hi _ hr => ?_
    · obtain ⟨w, G, h, a, hr⟩ := hf hd
      obtain ⟨e1, e2⟩ := rv_v (h1 (fun d' e => hr yx x d' hx e) hg ho)
      exact str_bound e2
    · obtain ⟨e1, e2⟩ := rv_v (h1 (fun d' e => hr yx x d' hx e) hg p1)
      have hm := str_bound e2
      refine ⟨.int .i64 s.data.toList.length, ?_, rv_mkint ?_⟩
      · have e3 : s.data.toList.length = s.size := rfl
        rw [e3]
        simp [execOp, resolve, invoke, builtin, e1, Builtin.len_, run_underlying ht, Result.andThen, goInt]
      · generalize s.data.toList.length = n at hm
        simp only [maxN] at hm; simp only [IntKind.min, IntKind.max, IntKind.signed, IntKind.bits]; simp; omega
  · exact hk1.elim

/-- What is said of a slice that is written in place. -/
def VecOK (w : World) (G : Gh) (h : Hp) (i n k : Nat) (a : Option Addr) (cap : Nat) : Prop :=
  ∀ b k' ds, h i = .vec b k' ds → k' = k ∧ n * k ≤ ds.length ∧ (b = false → n = 0 ∧ cap = 0 ∧ ∀ x, a = some x → x.spot = none) ∧
      (b = true → a = some ⟨G.blk i, 0, none⟩ ∧ ∃ cs T fr, w.heap[G.blk i]? = some (.cells cs T fr) ∧ cap * k ≤ cs.size)

theorem rv_vec {w G h x} {i n k : Nat} (r : Rv w G h x (.vec i n k)) : ∃ a cap, x = .slice a n cap ∧ h i ≠ .dead ∧ n ≤ maxN ∧ n ≤ cap ∧ VecOK w G h i n k a cap := by
  cases r with | vec hd hm hc hv => exact ⟨_, _, rfl, hd, hm, hc, hv⟩

theorem rv_vref {w G h x} {i off : Nat} (r : Rv w G h x (.vref i off)) : ∃ b, x = .pointer (some ⟨b, off, none⟩) ∧ h i ≠ .dead ∧ ∀ f k ds, h i = .vec f k ds → f = true ∧ b = G.blk i := by
  cases r with | vref hd hv => exact ⟨_, rfl, hd, hv⟩

theorem vec_cells {w : World} {G : Gh} {h : Hp} (hi : Inv w G h) {i k : Nat} {ds : List D} (e : h i = .vec true k ds) : ∃ u : Nat → Value,
    (∀ j, j < ds.length → w.cell? ⟨G.blk i, j, none⟩ = some (u j)) ∧ ∀ (j : Nat) d, ds[j]? = some d → Rv w G h (u j) d ∧ (u j).oneCell' = true := by
  obtain ⟨_, cs, T, hc, hl, hr⟩ := (hi.vec i true k ds e).2 rfl
  refine ⟨fun j => cs.getD j undef, fun j hj => ?_, fun j d hd => ?_⟩
  · simp [World.cell?, hc, show j < cs.size by omega]
  · have hj : j < cs.size := Nat.lt_of_lt_of_le (List.getElem?_eq_some_iff.1 hd).1 hl
    have := hr j cs[j] d (by simp [hj]) hd
    simpa [hj] using this

theorem s_lenl {t e : TypeId} {yx : Operand} {x : X} (hx : cvX yx = some x) (ht : P.underlying t = some (.slice e)) (hf : dr = false → ∃ w G h a, Rel ev w G h a)
    (hk : opE P ev hpR f dr gd g (.lenl x) K) : Sound P ⟨dst, .call { callee := .builtin .len, args := #[yx], argTypes := #[t] }, ty, pos, after, gu⟩ ev hpR f gd g K := by
  have big : ∀ n : Nat, n ≤ maxN → IntKind.i64.min ≤ (n : Int) ∧ (n : Int) ≤ IntKind.i64.max := fun n hn => by
    simp only [maxN] at hn; simp only [IntKind.min, IntKind.max, IntKind.signed, IntKind.bits]; simp; omega
  simp only [opE] at hk
  obtain ⟨o1, d1, hk1, h1⟩ := evG_spec hk
  split at hk1
  · rename_i i off n k
    have key : ∀ w G h (a : Act), Rel ev w G h a → g = true → o1 → ∃ b c, a.eval yx = .slice b n c ∧ n ≤ maxN := fun w G h a hr hg ho => by
      have := h1 (fun d' e => hr yx x d' hx e) hg ho
      generalize a.eval yx = z at this
      cases this with | bs hb hc hl hm => exact ⟨_, _, rfl, hm⟩
    refine Sound.pure (tc := []) (hk1 fun hd hg ho => ?_) fun p1 hg w G h r hi _ hr => ?_
    · obtain ⟨w, G, h, a, hr⟩ := hf hd
      obtain ⟨_, _, _, e⟩ := key w G h a hr hg ho
      exact e
    · obtain ⟨b, c, e1, e2⟩ := key w G h r hr hg p1
      exact ⟨.int .i64 n, by simp [execOp, resolve, invoke, builtin, e1, Builtin.len_, run_underlying ht, Result.andThen, goInt], rv_mkint (big n e2)⟩
  · rename_i i n k
    have key : ∀ w G h (a : Act), Rel ev w G h a → g = true → o1 → ∃ b c, a.eval yx = .slice b n c ∧ n ≤ maxN := fun w G h a hr hg ho => by
      obtain ⟨a, cap, e, _, hm, _⟩ := rv_vec (h1 (fun d' e => hr yx x d' hx e) hg ho)
      exact ⟨_, _, e, hm⟩
    refine Sound.pure (tc := []) (hk1 fun hd hg ho => ?_) fun p1 hg w G h r hi _ hr => ?_
    · obtain ⟨w, G, h, a, hr⟩ := hf hd
      obtain ⟨_, _, _, e⟩ := key w G h a hr hg ho
      exact e
    · obtain ⟨b, c, e1, e2⟩ := key w G h r hr hg p1
      exact ⟨.int .i64 n, by simp [execOp, resolve, invoke, builtin, e1, Builtin.len_, run_underlying ht, Result.andThen, goInt], rv_mkint (big n e2)⟩
  · split at hk1
    · rename_i es hes
      have key : ∀ w G h (a : Act), Rel ev w G h a → g = true → o1 → ∃ b c, a.eval yx = .slice b es.length c ∧ es.length ≤ maxN := fun w G h a hr hg ho => by
        rcases rv_list (h1 (fun d' e => hr yx x d' hx e) hg ho) hes with ⟨b, e1, e2, _⟩ | r
        · exact ⟨b, 0, by rw [e1, e2]; rfl, by rw [e2]; exact Nat.zero_le _⟩
        · rcases rve_sl r with ⟨a0, c0, e1, e2, _⟩ | ⟨b, off, cap, k, u, e1, _, e2, _⟩
          · exact ⟨a0, c0, by rw [e1, e2]; rfl, by rw [e2]; exact Nat.zero_le _⟩
          · exact ⟨_, _, e1, e2⟩
      refine Sound.pure (tc := []) (hk1 fun hd hg ho => ?_) fun p1 hg w G h r hi _ hr => ?_
      · obtain ⟨w, G, h, a, hr⟩ := hf hd
        obtain ⟨_, _, _, e⟩ := key w G h a hr hg ho
        exact e
      · obtain ⟨b, c, e1, e2⟩ := key w G h r hr hg p1
        exact ⟨.int .i64 es.length, by simp [execOp, resolve, invoke, builtin, e1, Builtin.len_, run_underlying ht, Result.andThen, goInt], rv_mkint (big _ e2)⟩
    · exact hk1.elim

theorem rv_rp {w G h x} {ds : List E} (r : Rv w G h x (.rp ds)) : ∃ (b off : Nat) (u : Nat → Value), x = .pointer (some ⟨b, off, none⟩) ∧
    (∀ j, j < ds.length → G.pub b (off + j) ∧ w.cell? ⟨b, off + j, none⟩ = some (u j)) ∧ ∀ (j : Nat) d, ds[j]? = some d → RvE w G.pub (u j) d := by
  cases r with | rp u hp hr => exact ⟨_, _, u, rfl, hp, hr⟩

theorem rv_ref {w G h x} {i off : Nat} (r : Rv w G h x (.ref i off)) : x = .pointer (some ⟨G.blk i, off, none⟩) ∧ ∃ ds, h i = .box ds := by
  cases r with | ref hb => exact ⟨rfl, _, hb⟩

theorem rv_refs {w G h x} {i off : Nat} (r : Rv w G h x (.refs i off)) : x = .pointer (some ⟨G.blk i, off, none⟩) ∧ ∃ ds, h i = .box ds := by
  cases r with | refs hb => exact ⟨rfl, _, hb⟩

theorem nr_spec {X : Option D} {g : Bool} {o : Prop} {d : D} (h : ∀ {w G h v}, (∀ d', X = some d' → Rv w G h v d') → g = true → o → Rv w G h v d) :
    ∀ {w G h v}, (∀ d', X = some d' → Rv w G h v d') → g = true → o → Rv w G h v d.nr := fun a b c => (h a b c).nr

theorem rp_drop {w : World} {G : Gh} {h : Hp} {b off : Nat} {u : Nat → Value} {ds : List E} (hp : ∀ j, j < ds.length → G.pub b (off + j) ∧ w.cell? ⟨b, off + j, none⟩ = some (u j))
    (hr : ∀ (j : Nat) d, ds[j]? = some d → RvE w G.pub (u j) d) (k : Nat) : Rv w G h (.pointer (some ⟨b, off + k, none⟩)) (.rp (ds.drop k)) :=
  .rp (fun j => u (k + j)) (fun j hj => by rw [List.length_drop] at hj; rw [Nat.add_assoc]; exact hp (k + j) (by omega)) (fun j d hd => hr (k + j) d (by simpa using hd))

theorem s_nilc {yx : Operand} {x : X} (hx : cvX yx = some x)
    (hk : opE P ev hpR f dr gd g (.nilc x) K) : Sound P ⟨dst, .nilCheck yx, ty, pos, after, gu⟩ ev hpR f gd g K := by
  simp only [opE] at hk
  obtain ⟨o1, d1, hk1, h1⟩ := evG_spec hk
  split at hk1
  · refine Sound.pure (tc := []) hk1 fun p1 hg w G h r hi _ hr => ?_
    have h2 := h1 (fun d' e => hr yx x d' hx e) hg p1
    obtain ⟨b, off, u, e1, _⟩ := rv_rp h2
    exact ⟨r.eval yx, by simp [execOp, e1], h2⟩
  · refine Sound.pure (tc := []) hk1 fun p1 hg w G h r hi _ hr => ?_
    have h2 := h1 (fun d' e => hr yx x d' hx e) hg p1
    obtain ⟨e1, _⟩ := rv_ref h2
    exact ⟨r.eval yx, by simp [execOp, e1], h2⟩
  · refine Sound.pure (tc := []) hk1 fun p1 hg w G h r hi _ hr => ?_
    have h2 := h1 (fun d' e => hr yx x d' hx e) hg p1
    obtain ⟨e1, _⟩ := rv_refs h2
    exact ⟨r.eval yx, by simp [execOp, e1], h2⟩
  · refine Sound.pure (tc := []) hk1 fun p1 hg w G h r hi _ hr => ?_
    have h2 := h1 (fun d' e => hr yx x d' hx e) hg p1
    obtain ⟨b, e1, _⟩ := rv_vref h2
    exact ⟨r.eval yx, by simp [execOp, e1], h2⟩
  · exact hk1.elim

theorem s_fadr {t : TypeId} {fs : Array Field} {fi : Nat} {fd : Field} {yx : Operand} {x : X} (hx : cvX yx = some x) (ht : P.underlying t = some (.struct fs)) (hfd : fs[fi]? = some fd)
    (hz : P.cellsOf fd.type ≠ 0) (hk : opE P ev hpR f dr gd g (.fadr fd.offset x) K) : Sound P ⟨dst, .fieldAddr t yx fi, ty, pos, after, gu⟩ ev hpR f gd g K := by
  simp only [opE] at hk
  obtain ⟨o1, d1, hk1, h1⟩ := evG_spec hk
  have run : ∀ w b off, (Instr.fieldAt t (.pointer (some ⟨b, off, none⟩)) fi).run P w = .ok (.pointer (some ⟨b, off + fd.offset, none⟩)) w := fun w b off => by
    simp [Instr.fieldAt, run_underlying ht, Result.andThen, hfd, Instr.sureAddr, fieldPlace, run_size hz, hz, addr_add]
  split at hk1
  · refine Sound.pure (tc := []) hk1 fun p1 hg w G h r hi _ hr => ?_
    obtain ⟨b, off, u, e1, h3, h4⟩ := rv_rp (h1 (fun d' e => hr yx x d' hx e) hg p1)
    exact ⟨_, exec_v (w' := w) (by rw [e1]; exact run w b off), rp_drop h3 h4 _⟩
  · refine Sound.pure (tc := []) hk1 fun p1 hg w G h r hi _ hr => ?_
    obtain ⟨e1, ds, e2⟩ := rv_ref (h1 (fun d' e => hr yx x d' hx e) hg p1)
    exact ⟨_, exec_v (w' := w) (by rw [e1]; exact run w _ _), .ref e2⟩
  · refine Sound.pure (tc := []) hk1 fun p1 hg w G h r hi _ hr => ?_
    obtain ⟨e1, ds, e2⟩ := rv_refs (h1 (fun d' e => hr yx x d' hx e) hg p1)
    exact ⟨_, exec_v (w' := w) (by rw [e1]; exact run w _ _), .refs e2⟩
  · refine Sound.pure (tc := []) hk1 fun p1 hg w G h r hi _ hr => ?_
    obtain ⟨b, e1, e2, e3⟩ := rv_vref (h1 (fun d' e => hr yx x d' hx e) hg p1)
    exact ⟨_, exec_v (w' := w) (by rw [e1]; exact run w _ _), .vref e2 e3⟩
  · exact hk1.elim

theorem idx_list {w : World} {G : Gh} {h : Hp} {b off k : Nat} {u : Nat → Value} {es : List (List E)} (hkk : ∀ e ∈ es, e.length = k)
    (hp : ∀ j, j < es.length * k → G.pub b (off + j) ∧ w.cell? ⟨b, off + j, none⟩ = some (u j)) (hr : ∀ (j : Nat) d, es.flatten[j]? = some d → RvE w G.pub (u j) d)
    {i : Nat} (hi : i < es.length) : Rv w G h (.pointer (some ⟨b, off + i * k, none⟩)) (.rp (es.getD i [])) := by
  have he : es[i]? = some (es.getD i []) := by simp [List.getD, hi]
  have hl : (es.getD i []).length = k := hkk _ (List.mem_of_getElem? he)
  have hb : i * k + k ≤ es.length * k := by rw [← Nat.succ_mul]; exact Nat.mul_le_mul_right k hi
  refine .rp (fun j => u (i * k + j)) (fun j hj => ?_) (fun j d hd => ?_)
  · rw [Nat.add_assoc]; exact hp (i * k + j) (by omega)
  · have hj : j < k := by rw [← hl]; exact (List.getElem?_eq_some_iff.1 hd).1
    exact hr _ d (by rw [flatten_get hkk i _ j he hj]; exact hd)

theorem s_iadr_sl {t e : TypeId} {k : Nat} {yx yi : Operand} {x i : X} (hx : cvX yx = some x) (hy : cvX yi = some i) (ht : P.underlying t = some (.slice e)) (hke : P.cellsOf e = k)
    (hz : P.cellsOf e ≠ 0) (hk : opE P ev hpR f dr gd g (.iadr none k x i) K) : Sound P ⟨dst, .indexAddr t yx yi, ty, pos, after, gu⟩ ev hpR f gd g K := by
  simp only [opE] at hk
  obtain ⟨o1, d1, hk1, h1⟩ := evG_spec hk
  obtain ⟨o2, d2, hk2, h2⟩ := evG_spec hk1
  have run : ∀ (w : World) (b off cap len : Nat) (kd : IntKind) (n : Int), 0 ≤ n → n < (len : Int) → (Instr.indexAt t (.slice (some ⟨b, off, none⟩) len cap) (.int kd n)).run P w = .ok (.pointer (some ⟨b, off + n.toNat * k, none⟩)) w :=
    fun w b off cap len kd n h0 h1 => by
      subst hke
      simp [Instr.indexAt, asIntOf, run_underlying ht, Result.andThen, h0, h1, run_size hz, addr_add]
  split at hk2
  case h_2 => exact hk2.elim
  rename_i kd n
  split at hk2
  · rename_i j off m k'
    refine Sound.fx hk2 fun ⟨p1, p2, p3, p4, p5⟩ hg w G h r hi hr => ?_
    obtain ⟨e2, _⟩ := rv_int (h2 (fun d' e => hr yi i d' hy e) hg p2)
    have h3 := h1 (fun d' e => hr yx x d' hx e) hg p1
    generalize hz1 : r.eval yx = z at h3
    cases h3 with
    | bs hb hc hl hm =>
      obtain ⟨rfl, rfl, _⟩ := hl.resolve_left (by omega)
      exact ⟨_, exec_v (w' := w) (by rw [hz1, e2]; exact run w _ _ _ _ _ n p3 p4), .refs hb⟩
  · rename_i j m k'
    split at hk2
    case h_2 => exact hk2.elim
    rename_i fl k2 ds hds
    refine Sound.pure (tc := [j]) hk2 fun p0 hg w G h r hi ht0 hr => ?_
    obtain ⟨p1, p2, p3, p4, rfl⟩ := gImp_iff.1 p0 hg
    obtain ⟨e2, _⟩ := rv_int (h2 (fun d' e => hr yi i d' hy e) hg p2)
    obtain ⟨a, cap, e1, hd, _, _, hv⟩ := rv_vec (h1 (fun d' e => hr yx x d' hx e) hg p1)
    obtain ⟨_, q2, q3, q4⟩ := hv fl k2 ds (by rw [ht0 j (by simp), hds])
    have hfl : fl = true := by
      cases fl with
      | true => rfl
      | false => have := (q3 rfl).1; omega
    subst hfl
    obtain ⟨q5, _⟩ := q4 rfl
    refine ⟨_, exec_v (w' := w) (by rw [e1, e2, q5]; exact run w _ _ _ _ _ n p3 p4), .vref hd fun f k3 ds3 e3 => ?_⟩
    rw [ht0 j (by simp), hds] at e3
    cases e3
    exact ⟨rfl, rfl⟩
  · split at hk2
    · rename_i es hes
      refine Sound.fx hk2 fun ⟨p1, p2, ⟨p3, p4⟩, p5⟩ hg w G h r hi hr => ?_
      obtain ⟨e2, _⟩ := rv_int (h2 (fun d' e => hr yi i d' hy e) hg p2)
      rcases rv_list (h1 (fun d' e => hr yx x d' hx e) hg p1) hes with ⟨b, e1, e3, _⟩ | r'
      · rw [e3] at p4; simp at p4; omega
      · rcases rve_sl r' with ⟨_, _, e1, e3, _⟩ | ⟨b, off, cap, k', u, e1, _, _, hkk, hp, hrr⟩
        · rw [e3] at p4; simp at p4; omega
        · have hn : n.toNat < es.length := by omega
          have : k' = k := by
            rw [← p5]; exact (hkk _ (List.mem_of_getElem? (by simp [List.getD, hn] : es[n.toNat]? = some (es.getD n.toNat [])))).symm
          subst this
          exact ⟨_, exec_v (w' := w) (by rw [e1, e2]; exact run w _ _ _ _ _ n p3 p4), idx_list hkk hp hrr hn⟩
    · exact hk2.elim

theorem s_iadr_arr {t e : TypeId} {k m : Nat} {yx yi : Operand} {x i : X} (hx : cvX yx = some x) (hy : cvX yi = some i) (ht : P.underlying t = some (.array m e)) (hke : P.cellsOf e = k)
    (hz : P.cellsOf e ≠ 0) (hk : opE P ev hpR f dr gd g (.iadr (some m) k x i) K) : Sound P ⟨dst, .indexAddr t yx yi, ty, pos, after, gu⟩ ev hpR f gd g K := by
  simp only [opE] at hk
  obtain ⟨o1, d1, hk1, h1⟩ := evG_spec hk
  obtain ⟨o2, d2, hk2, h2⟩ := evG_spec hk1
  have run : ∀ (w : World) (b off : Nat) (kd : IntKind) (n : Int), 0 ≤ n → n < (m : Int) → (Instr.indexAt t (.pointer (some ⟨b, off, none⟩)) (.int kd n)).run P w = .ok (.pointer (some ⟨b, off + n.toNat * k, none⟩)) w :=
    fun w b off kd n h0 h1 => by
      subst hke
      simp [Instr.indexAt, asIntOf, run_underlying ht, Result.andThen, h0, h1, run_size hz, addr_add, Instr.sureAddr]
  split at hk2
  case h_2 => exact hk2.elim
  rename_i kd n
  split at hk2
  · refine Sound.fx hk2 fun ⟨p1, p2, p3, p4⟩ hg w G h r hi hr => ?_
    obtain ⟨e2, _⟩ := rv_int (h2 (fun d' e => hr yi i d' hy e) hg p2)
    obtain ⟨e1, ds, e3⟩ := rv_ref (h1 (fun d' e => hr yx x d' hx e) hg p1)
    exact ⟨_, exec_v (w' := w) (by rw [e1, e2]; exact run w _ _ _ n p3 p4), .ref e3⟩
  · refine Sound.fx hk2 fun ⟨p1, p2, p3, p4⟩ hg w G h r hi hr => ?_
    obtain ⟨e2, _⟩ := rv_int (h2 (fun d' e => hr yi i d' hy e) hg p2)
    obtain ⟨e1, ds, e3⟩ := rv_refs (h1 (fun d' e => hr yx x d' hx e) hg p1)
    exact ⟨_, exec_v (w' := w) (by rw [e1, e2]; exact run w _ _ _ n p3 p4), .refs e3⟩
  · refine Sound.fx hk2 fun ⟨p1, p2, p3, p4⟩ hg w G h r hi hr => ?_
    obtain ⟨e2, _⟩ := rv_int (h2 (fun d' e => hr yi i d' hy e) hg p2)
    obtain ⟨b, off, u, e1, h3, h4⟩ := rv_rp (h1 (fun d' e => hr yx x d' hx e) hg p1)
    exact ⟨_, exec_v (w' := w) (by rw [e1, e2]; exact run w _ _ _ n p3 p4), rp_drop h3 h4 _⟩
  · exact hk2.elim

theorem run_loadVar_agg {w : World} {t : TypeId} {b off : Nat} {n : Nat} {u : Nat → Value} (ha : isAggB P t = true) (hn : P.cellsOf t = n) (h0 : ∃ d, P.underlying t = some d)
    (hc : ∀ j, j < n → w.cell? ⟨b, off + j, none⟩ = some (u j)) : (loadVar t ⟨b, off, none⟩).run P w = .ok (.agg ((List.range n).map u).toArray) w := by
  obtain ⟨d, hd⟩ := h0
  obtain ⟨i, hi⟩ := info_of_under hd
  have h1 := run_loadCells (P := P) w ⟨b, off, none⟩ n u (fun j hj => by rw [addr_add]; exact hc j hj)
  have h2 : (sizeOf t).run P w = .ok n w := by rw [run_sizeOf w hi, hn]
  simp only [loadVar, Sem.run_bind, run_isAgg' hd, Result.andThen, ha, if_true, h2, h1, Sem.run_pure]

theorem run_loadVar_one {w : World} {t : TypeId} {b off : Nat} {u : Value} (ha : isAggB P t = false) (h0 : ∃ d, P.underlying t = some d)
    (hc : w.cell? ⟨b, off, none⟩ = some u) : (loadVar t ⟨b, off, none⟩).run P w = .ok u w := by
  obtain ⟨d, hd⟩ := h0
  simp [loadVar, run_isAgg' hd, Result.andThen, ha, hc]

theorem rv_range {w : World} {G : Gh} {h : Hp} {n : Nat} {u : Nat → Value} {ds : List D} (hl : ds.length = n) (h1 : ∀ (j : Nat) d, ds[j]? = some d → Rv w G h (u j) d ∧ (u j).oneCell' = true) :
    Rv w G h (.agg ((List.range n).map u).toArray) (.agg ds) := by
  refine .agg (by simp [hl]) (fun j c hc => ?_) (fun j c d hc hd => ?_)
  · simp only [List.getElem?_toArray, List.getElem?_map, Option.map_eq_some_iff] at hc
    obtain ⟨j', hj, rfl⟩ := hc
    obtain ⟨hj1, rfl⟩ := List.getElem?_eq_some_iff.1 hj
    simp at hj1 ⊢
    exact (h1 j ds[j] (by simp [hl, hj1])).2
  · simp only [List.getElem?_toArray, List.getElem?_map, Option.map_eq_some_iff] at hc
    obtain ⟨j', hj, rfl⟩ := hc
    obtain ⟨hj1, rfl⟩ := List.getElem?_eq_some_iff.1 hj
    simp at hj1 ⊢
    exact (h1 j d hd).1

theorem box_cells {w : World} {G : Gh} {h : Hp} (hi : Inv w G h) {i : Nat} {ds : List D} (e : h i = .box ds) : ∃ u : Nat → Value,
    (∀ j, j < ds.length → w.cell? ⟨G.blk i, j, none⟩ = some (u j)) ∧ ∀ (j : Nat) d, ds[j]? = some d → Rv w G h (u j) d ∧ (u j).oneCell' = true := by
  obtain ⟨_, cs, T, hc, hl, hr⟩ := hi.box i ds e
  refine ⟨fun j => cs.getD j undef, fun j hj => ?_, fun j d hd => ?_⟩
  · simp [World.cell?, hc, show j < cs.size by omega]
  · have hj : j < cs.size := by rw [hl]; exact (List.getElem?_eq_some_iff.1 hd).1
    have := hr j cs[j] d (by simp [hj]) hd
    simpa [hj] using this

theorem s_load {t : TypeId} {yx : Operand} {x : X} {ag : Bool} {n : Nat} (hx : cvX yx = some x) (h0 : ∃ d, P.underlying t = some d) (ha : isAggB P t = ag) (hn : ag = true → P.cellsOf t = n)
    (hk : opE P ev hpR f dr gd g (.load ag n x) K) : Sound P ⟨dst, .load t yx, ty, pos, after, gu⟩ ev hpR f gd g K := by
  simp only [opE] at hk
  obtain ⟨o1, d0, hk1, h00⟩ := evG_spec hk
  have h1 := @nr_spec _ _ _ _ @h00
  generalize d0.nr = d1 at hk1 h1
  split at hk1
  · rename_i ds
    cases ag with
    | true =>
      simp only [if_true] at hk1
      refine Sound.fx hk1 fun ⟨p1, p2⟩ hg w G h r hi hr => ?_
      obtain ⟨b, off, u, e1, h3, h4⟩ := rv_rp (h1 (fun d' e => hr yx x d' hx e) hg p1)
      refine ⟨_, exec_v (w' := w) (by rw [e1]; simp only [Instr.loadAt, Instr.sureAddr, Sem.run_bind, Sem.run_pure, Result.andThen]; exact run_loadVar_agg ha (hn rfl) h0 (fun j hj => (h3 j (by omega)).2)), ?_⟩
      refine rv_range (by simp [p2]) fun j d hd => ?_
      simp only [List.getElem?_map, Option.map_eq_some_iff] at hd
      obtain ⟨d', hd, rfl⟩ := hd
      have := h4 j d' (by rw [List.getElem?_take] at hd; split at hd <;> simp_all)
      exact ⟨.e this, this.cell⟩
    | false =>
      simp only [Bool.false_eq_true, if_false] at hk1
      refine Sound.fx hk1 fun ⟨p1, p2⟩ hg w G h r hi hr => ?_
      obtain ⟨b, off, u, e1, h3, h4⟩ := rv_rp (h1 (fun d' e => hr yx x d' hx e) hg p1)
      exact ⟨u 0, exec_v (w' := w) (by rw [e1]; simp only [Instr.loadAt, Instr.sureAddr, Sem.run_bind, Sem.run_pure, Result.andThen]; exact run_loadVar_one ha h0 (h3 0 (by omega)).2),
        .e (h4 0 _ (by simp [List.getD, show 0 < ds.length by omega]))⟩
  · rename_i i off
    split at hk1
    · rename_i ds hds
      cases ag with
      | true =>
        simp only [if_true] at hk1
        refine Sound.pure (tc := [i]) hk1 fun ⟨p1, p2⟩ hg w G h r hi ht hr => ?_
        obtain ⟨e1, _⟩ := rv_ref (h1 (fun d' e => hr yx x d' hx e) hg p1)
        obtain ⟨u, hu1, hu2⟩ := box_cells hi (show h i = .box ds by rw [ht i (by simp), hds])
        refine ⟨_, exec_v (w' := w) (by rw [e1]; simp only [Instr.loadAt, Instr.sureAddr, Sem.run_bind, Sem.run_pure, Result.andThen]; exact run_loadVar_agg (u := fun j => u (off + j)) ha (hn rfl) h0 (fun j hj => hu1 (off + j) (by omega))), ?_⟩
        refine rv_range (by simp; omega) fun j d hd => ?_
        rw [List.getElem?_take] at hd
        split at hd
        · exact hu2 (off + j) d (by simpa using hd)
        · cases hd
      | false =>
        simp only [Bool.false_eq_true, if_false] at hk1
        refine Sound.pure (tc := [i]) hk1 fun ⟨p1, p2⟩ hg w G h r hi ht hr => ?_
        obtain ⟨e1, _⟩ := rv_ref (h1 (fun d' e => hr yx x d' hx e) hg p1)
        obtain ⟨u, hu1, hu2⟩ := box_cells hi (show h i = .box ds by rw [ht i (by simp), hds])
        exact ⟨u off, exec_v (w' := w) (by rw [e1]; simp only [Instr.loadAt, Instr.sureAddr, Sem.run_bind, Sem.run_pure, Result.andThen]; exact run_loadVar_one ha h0 (hu1 off p2)),
          (hu2 off _ (by simp [List.getD, p2])).1⟩
    · exact hk1.elim
  · rename_i i off
    split at hk1
    · rename_i fl k0 ds hds
      cases ag with
      | true =>
        simp only [if_true] at hk1
        refine Sound.pure (tc := [i]) hk1 fun ⟨p1, p2⟩ hg w G h r hi ht hr => ?_
        obtain ⟨b, e1, _, e3⟩ := rv_vref (h1 (fun d' e => hr yx x d' hx e) hg p1)
        have hh : h i = .vec fl k0 ds := by rw [ht i (by simp), hds]
        obtain ⟨rfl, rfl⟩ := e3 _ _ _ hh
        obtain ⟨u, hu1, hu2⟩ := vec_cells hi hh
        refine ⟨_, exec_v (w' := w) (by rw [e1]; simp only [Instr.loadAt, Instr.sureAddr, Sem.run_bind, Sem.run_pure, Result.andThen]; exact run_loadVar_agg (u := fun j => u (off + j)) ha (hn rfl) h0 (fun j hj => hu1 (off + j) (by omega))), ?_⟩
        refine rv_range (by simp; omega) fun j d hd => ?_
        rw [List.getElem?_take] at hd
        split at hd
        · exact hu2 (off + j) d (by simpa using hd)
        · cases hd
      | false =>
        simp only [Bool.false_eq_true, if_false] at hk1
        refine Sound.pure (tc := [i]) hk1 fun ⟨p1, p2⟩ hg w G h r hi ht hr => ?_
        obtain ⟨b, e1, _, e3⟩ := rv_vref (h1 (fun d' e => hr yx x d' hx e) hg p1)
        have hh : h i = .vec fl k0 ds := by rw [ht i (by simp), hds]
        obtain ⟨rfl, rfl⟩ := e3 _ _ _ hh
        obtain ⟨u, hu1, hu2⟩ := vec_cells hi hh
        exact ⟨u off, exec_v (w' := w) (by rw [e1]; simp only [Instr.loadAt, Instr.sureAddr, Sem.run_bind, Sem.run_pure, Result.andThen]; exact run_loadVar_one ha h0 (hu1 off p2)),
          (hu2 off _ (by simp [List.getD, p2])).1⟩
    · exact hk1.elim
  · exact hk1.elim

theorem s_fld {t : TypeId} {fs : Array Field} {fi : Nat} {fd : Field} {ag : Bool} {n : Nat} {yx : Operand} {x : X} (hx : cvX yx = some x) (ht : P.underlying t = some (.struct fs)) (hfd : fs[fi]? = some fd)
    (h0 : ∃ d, P.underlying fd.type = some d) (ha : isAggB P fd.type = ag) (hn : ag = true → P.cellsOf fd.type = n)
    (hk : opE P ev hpR f dr gd g (.fld ag fd.offset n x) K) : Sound P ⟨dst, .field t yx fi, ty, pos, after, gu⟩ ev hpR f gd g K := by
  obtain ⟨d0, hd0⟩ := h0
  obtain ⟨inf, hinf⟩ := info_of_under hd0
  simp only [opE] at hk
  obtain ⟨o1, d1, hk1, h1⟩ := evG_spec hk
  split at hk1
  case h_2 => exact hk1.elim
  rename_i ds
  cases ag with
  | true =>
    simp only [if_true] at hk1
    refine Sound.fx hk1 fun ⟨p1, p2⟩ hg w G h r hi hr => ?_
    obtain ⟨cs, e1, hl, h3, h4⟩ := rv_agg (h1 (fun d' e => hr yx x d' hx e) hg p1)
    refine ⟨.agg (cs.extract fd.offset (fd.offset + n)), exec_v (w' := w) (by rw [e1]; simp [Instr.field, run_underlying ht, Result.andThen, hfd, part, asAgg, run_isAgg' hd0, ha, run_sizeOf _ hinf, hn]), ?_⟩
    refine .agg (by simp; omega) (fun j c hc => ?_) (fun j c d hc hd => ?_)
    · rw [Array.getElem?_extract] at hc; split at hc
      · exact h3 _ c hc
      · cases hc
    · rw [Array.getElem?_extract] at hc; split at hc
      · rw [List.getElem?_take] at hd; split at hd
        · exact h4 _ c d hc (by simpa using hd)
        · cases hd
      · cases hc
  | false =>
    simp only [Bool.false_eq_true, if_false] at hk1
    refine Sound.fx hk1 fun ⟨p1, p2⟩ hg w G h r hi hr => ?_
    obtain ⟨cs, e1, hl, h3, h4⟩ := rv_agg (h1 (fun d' e => hr yx x d' hx e) hg p1)
    have hc : cs[fd.offset]? = some cs[fd.offset] := by simp [show fd.offset < cs.size by omega]
    refine ⟨cs[fd.offset], exec_v (w' := w) (by rw [e1]; simp [Instr.field, run_underlying ht, Result.andThen, hfd, part, asAgg, run_isAgg' hd0, ha, hc]), h4 _ _ _ hc (by simp [List.getD, p2])⟩

theorem s_ixs {t : TypeId} {yx yi : Operand} {x i : X} (hx : cvX yx = some x) (hy : cvX yi = some i) (ht : P.underlying t = some .string)
    (hk : opE P ev hpR f dr gd g (.ixs x i) K) : Sound P ⟨dst, .index t yx yi, ty, pos, after, gu⟩ ev hpR f gd g K := by
  simp only [opE] at hk
  obtain ⟨o1, d1, hk1, h1⟩ := evG_spec hk
  obtain ⟨o2, d2, hk2, h2⟩ := evG_spec hk1
  split at hk2
  case h_2 => exact hk2.elim
  rename_i s kd n
  refine Sound.fx hk2 fun ⟨p1, p2, p3, p4⟩ hg w G h r hi hr => ?_
  obtain ⟨e1, _⟩ := rv_v (h1 (fun d' e => hr yx x d' hx e) hg p1)
  obtain ⟨e2, _⟩ := rv_int (h2 (fun d' e => hr yi i d' hy e) hg p2)
  have e3 : s.data.toList.length = s.size := rfl
  have hn : n.toNat < s.size := by omega
  have e4 : s[n.toNat]? = some (s.data.toList.getD n.toNat 0) := by
    have : s[n.toNat]? = some s[n.toNat] := by simp [hn]
    rw [this]
    congr 1
    have h5 : s.data.toList[n.toNat]? = some s[n.toNat] := by rw [Array.getElem?_toList]; exact Array.getElem?_eq_getElem (show n.toNat < s.data.size from hn)
    rw [List.getD, h5]
    rfl
  refine ⟨.int .u8 (s.data.toList.getD n.toNat 0).toNat, exec_v (w' := w) (by rw [e1, e2]; simp only [Instr.index, asIntOf, Sem.run_bind, Sem.run_pure, Result.andThen, run_underlying ht, p3, if_true, e4]), rv_mkint ?_⟩
  have := (s.data.toList.getD n.toNat 0).toNat_lt
  generalize (s.data.toList.getD n.toNat 0).toNat = m at this
  simp only [IntKind.min, IntKind.max, IntKind.signed, IntKind.bits]
  simp
  omega

theorem s_ixa {t e : TypeId} {m k : Nat} {ag : Bool} {yx yi : Operand} {x i : X} (hx : cvX yx = some x) (hy : cvX yi = some i) (ht : P.underlying t = some (.array m e)) (he : ∃ d, P.underlying e = some d)
    (ha : isAggB P e = ag) (hke : P.cellsOf e = k) (h1k : ag = false → k = 1)
    (hk : opE P ev hpR f dr gd g (.ixa ag m k x i) K) : Sound P ⟨dst, .index t yx yi, ty, pos, after, gu⟩ ev hpR f gd g K := by
  obtain ⟨d0, hd0⟩ := he
  obtain ⟨inf, hinf⟩ := info_of_under hd0
  simp only [opE] at hk
  obtain ⟨o1, d1, hk1, h1⟩ := evG_spec hk
  obtain ⟨o2, d2, hk2, h2⟩ := evG_spec hk1
  split at hk2
  case h_2 => exact hk2.elim
  rename_i ds kd n
  cases ag with
  | true =>
    simp only [if_true] at hk2
    refine Sound.fx hk2 fun ⟨p1, p2, p3, p4, p5⟩ hg w G h r hi hr => ?_
    obtain ⟨cs, e1, hl, h3, h4⟩ := rv_agg (h1 (fun d' e => hr yx x d' hx e) hg p1)
    obtain ⟨e2, _⟩ := rv_int (h2 (fun d' e => hr yi i d' hy e) hg p2)
    refine ⟨.agg (cs.extract (n.toNat * k) (n.toNat * k + k)), exec_v (w' := w) (by rw [e1, e2]; simp [Instr.index, asIntOf, run_underlying ht, Result.andThen, p3, p4, part, run_isAgg' hd0, ha, run_sizeOf _ hinf, hke]), ?_⟩
    refine .agg (by simp; omega) (fun j c hc => ?_) (fun j c d hc hd => ?_)
    · rw [Array.getElem?_extract] at hc; split at hc
      · exact h3 _ c hc
      · cases hc
    · rw [Array.getElem?_extract] at hc; split at hc
      · rw [List.getElem?_take] at hd; split at hd
        · exact h4 _ c d hc (by simpa using hd)
        · cases hd
      · cases hc
  | false =>
    simp only [Bool.false_eq_true, if_false] at hk2
    refine Sound.fx hk2 fun ⟨p1, p2, p3, p4, p5⟩ hg w G h r hi hr => ?_
    obtain ⟨cs, e1, hl, h3, h4⟩ := rv_agg (h1 (fun d' e => hr yx x d' hx e) hg p1)
    obtain ⟨e2, _⟩ := rv_int (h2 (fun d' e => hr yi i d' hy e) hg p2)
    have k1 := h1k rfl
    have hc : cs[n.toNat]? = some cs[n.toNat] := by simp [show n.toNat < cs.size by omega]
    refine ⟨cs[n.toNat], exec_v (w' := w) (by rw [e1, e2]; simp [Instr.index, asIntOf, run_underlying ht, Result.andThen, p3, p4, part, run_isAgg' hd0, ha, run_sizeOf _ hinf, hke, k1, hc]), h4 _ _ _ hc (by simp [List.getD, show n.toNat < ds.length by omega])⟩

/-! ### Slices of slices and of strings -/
theorem evO_spec {x : Option X} {K : Prop → Option Int → Prop} (hk : evO ev g x K) :
    ∃ o l, K o l ∧ ∀ {w G h} {a : Act} (y : Option Operand), opt? y = some x → Rel ev w G h a → g = true → o → y.map a.eval = l.map (.int .i64) := by
  unfold evO at hk
  split at hk
  · refine ⟨_, none, hk, fun y hy _ _ _ => ?_⟩
    cases y with
    | none => rfl
    | some y => simp [opt?] at hy
  · rename_i x
    obtain ⟨o, d, hk1, h1⟩ := evG_spec hk
    split at hk1
    · rename_i n
      refine ⟨_, some n, hk1, fun y hy hr hg ho => ?_⟩
      cases y with
      | none => simp [opt?] at hy
      | some y =>
        simp only [opt?, Option.map_eq_some_iff] at hy
        obtain ⟨x', hy, e⟩ := hy
        cases e
        obtain ⟨e1, _⟩ := rv_int (h1 (fun d' e => hr y x d' hy e) hg ho)
        simp [e1]
    · exact hk1.elim

theorem run_bound {w : World} {n : Int} {y : Nat} {code : BoundsCode} (h0 : 0 ≤ n) (h1 : n ≤ y) : (Instr.sliceBound (.int .i64 n) y code).run P w = .ok n.toNat w := by
  simp [Instr.sliceBound, asIntOf, h0, h1]

theorem run_bounds {w : World} {b : Bool} {len cap : Nat} (lo hi : Option Int) (h0 : 0 ≤ lo.getD 0) (h1 : lo.getD 0 ≤ hi.getD len) (h2 : hi.getD len ≤ len) (hc : len ≤ cap) :
    (Instr.sliceBounds b len cap (lo.map (.int .i64)) (hi.map (.int .i64)) none).run P w = .ok ((lo.getD 0).toNat, (hi.getD len).toNat, cap) w := by
  have r : ∀ (n : Int) (y : Nat) code, 0 ≤ n → n ≤ y → (Instr.sliceBound (.int .i64 n) y code).run P w = .ok n.toNat w := fun n y code => run_bound
  cases lo with
  | none =>
    cases hi with
    | none => simp [Instr.sliceBounds]
    | some h => simp at h1 h2; simp [Instr.sliceBounds, r h cap _ h1 (by omega), Result.andThen]
  | some l =>
    cases hi with
    | none => simp at h0 h1 h2; simp [Instr.sliceBounds, r l len _ h0 (by omega), Result.andThen]
    | some h => simp at h0 h1 h2; simp [Instr.sliceBounds, r h cap _ (by omega) (by omega), r l h.toNat _ h0 (by omega), Result.andThen]

theorem take_drop_list {w : World} {G : Gh} {b off k : Nat} {u : Nat → Value} {es : List (List E)} (hm : es.length ≤ maxN) (hkk : ∀ e ∈ es, e.length = k)
    (hp : ∀ j, j < es.length * k → G.pub b (off + j) ∧ w.cell? ⟨b, off + j, none⟩ = some (u j)) (hr : ∀ (j : Nat) d, es.flatten[j]? = some d → RvE w G.pub (u j) d)
    {l m cap' : Nat} (h1 : l ≤ m) (h2 : m ≤ es.length) (hc : m - l ≤ cap') : RvE w G.pub (.slice (some ⟨b, off + l * k, none⟩) (m - l) cap') (.sl ((es.take m).drop l)) := by
  have hkk' : ∀ e ∈ (es.take m).drop l, e.length = k := fun e he => hkk e (List.mem_of_mem_take (List.mem_of_mem_drop he))
  have hlen : ((es.take m).drop l).length = m - l := by simp; omega
  refine .sl (fun j => u (l * k + j)) hlen hc (by omega) hkk' (fun j hj => ?_) (fun j d hd => ?_)
  · rw [Nat.add_assoc]
    refine hp _ ?_
    have e1 : (m - l) * k + l * k = m * k := by rw [← Nat.add_mul, Nat.sub_add_cancel h1]
    have e2 : m * k ≤ es.length * k := Nat.mul_le_mul_right k h2
    omega
  · have hj : j < ((es.take m).drop l).length * k := by rw [← flatten_len hkk']; exact (List.getElem?_eq_some_iff.1 hd).1
    rw [hlen] at hj
    refine hr _ d ?_
    have hk0 : 0 < k := by rcases Nat.eq_zero_or_pos k with e | e; · subst e; omega
                           · exact e
    have hjk : j / k < m - l := Nat.div_lt_of_lt_mul (by rw [Nat.mul_comm]; exact hj)
    have he : ((es.take m).drop l)[j / k]? = some es[l + j / k] := by
      rw [List.getElem?_drop, List.getElem?_take]
      simp [show l + j / k < m by omega, show l + j / k < es.length by omega]
    have hdm : j / k * k + j % k = j := by rw [Nat.mul_comm]; exact Nat.div_add_mod j k
    rw [← hdm, flatten_get hkk' _ _ _ he (Nat.mod_lt _ hk0)] at hd
    rw [show l * k + j = (l + j / k) * k + j % k by rw [Nat.add_mul, Nat.add_assoc, hdm], flatten_get hkk (l + j / k) es[l + j / k] _ (by simp [show l + j / k < es.length by omega]) (Nat.mod_lt _ hk0)]
    exact hd

theorem empty_sl {w : World} {pub : Nat → Nat → Prop} {a : Option Addr} {cap : Nat} (ha : ∀ x, a = some x → x.spot = none) (hc : a = none → cap = 0) : RvE w pub (.slice a 0 cap) (.sl []) := by
  cases a with
  | none => rw [hc rfl]; exact .nils fun _ => rfl
  | some x =>
    obtain ⟨b, off, sp⟩ := x
    have : sp = none := ha _ rfl
    subst this
    exact .sl (k := 0) (fun _ => undef) rfl (Nat.zero_le _) (Nat.zero_le _) (by simp) (by simp) (by simp)

theorem s_slice {t e : TypeId} {yx : Operand} {x : X} {ylo yhi : Option Operand} {lo hi : Option X} {k0 : Nat} (hx : cvX yx = some x) (hlo : opt? ylo = some lo) (hhi : opt? yhi = some hi)
    (ht : P.underlying t = some (.slice e)) (hke : P.cellsOf e = k0) (hz : P.cellsOf e ≠ 0)
    (hk : opE P ev hpR f dr gd g (.slice k0 x lo hi) K) : Sound P ⟨dst, .slice t yx ylo yhi none, ty, pos, after, gu⟩ ev hpR f gd g K := by
  have run : ∀ (w : World) (a : Option Addr) (len cap : Nat) (l h : Option Int), 0 ≤ l.getD 0 → l.getD 0 ≤ h.getD len → h.getD len ≤ len → len ≤ cap →
      (Instr.sliceAt t (.slice a len cap) (l.map (.int .i64)) (h.map (.int .i64)) none).run P w =
        .ok (.slice (if cap = (l.getD 0).toNat then a else a.map (·.add ((l.getD 0).toNat * k0))) ((h.getD len).toNat - (l.getD 0).toNat) (cap - (l.getD 0).toNat)) w :=
    fun w a len cap l h h0 h1 h2 hc => by
      subst hke
      simp [Instr.sliceAt, Instr.slice, run_underlying ht, Result.andThen, run_bounds l h h0 h1 h2 hc, run_size hz]
  simp only [opE] at hk
  obtain ⟨o1, d1, hk1, h1⟩ := evG_spec hk
  obtain ⟨o2, l, hk2, h2⟩ := evO_spec hk1
  obtain ⟨o3, h', hk3, h3⟩ := evO_spec hk2
  split at hk3
  · rename_i j off n k
    refine Sound.fx hk3 fun ⟨p0, p1, p2, p3, p4, p5, p6⟩ hg w G h r hi hr => ?_
    subst p0
    have e1 := h2 ylo hlo hr hg p2
    have e2 := h3 yhi hhi hr hg p3
    have h4 := h1 (fun d' e => hr yx x d' hx e) hg p1
    generalize hz1 : r.eval yx = z at h4
    cases h4 with
    | bs hb hc hl hm =>
      rename_i cap ds b o
      refine ⟨_, exec_v (w' := w) (by rw [hz1, e1, e2]; exact run w _ _ _ l h' p4 p5 p6 hc), ?_⟩
      have q : (h'.getD n).toNat - (l.getD 0).toNat = (h'.getD n - l.getD 0).toNat := by omega
      rw [q]
      by_cases hcl : cap = (l.getD 0).toNat
      · rw [if_pos hcl]
        exact .bs hb (by omega) (.inl (by omega)) (by omega)
      · rw [if_neg hcl]
        simp only [Option.map_some, addr_add]
        refine .bs hb (by omega) ?_ (by omega)
        rcases hl with hl | ⟨rfl, rfl, hl⟩
        · exact .inl (by omega)
        · refine .inr ⟨rfl, rfl, ?_⟩
          have : (l.getD 0).toNat * k + (cap - (l.getD 0).toNat) * k = cap * k := by rw [← Nat.add_mul]; congr 1; omega
          omega
  · rename_i j n k
    refine Sound.fx hk3 fun ⟨p0, p1, p2, p3, p4, p5, p6⟩ hg w G h r hi hr => ?_
    subst p0
    have e1 := h2 ylo hlo hr hg p2
    have e2 := h3 yhi hhi hr hg p3
    obtain ⟨a, cap, e5, hd, hm, hc, hv⟩ := rv_vec (h1 (fun d' e => hr yx x d' hx e) hg p1)
    refine ⟨_, exec_v (w' := w) (by rw [e5, e1, e2]; exact run w _ _ _ l h' (by omega) (by omega) p6 hc), ?_⟩
    have q : (l.getD 0).toNat = 0 := by omega
    rw [q, Nat.sub_zero, Nat.sub_zero, Nat.zero_mul]
    have q2 : (if cap = 0 then a else a.map (·.add 0)) = a := by
      split
      · rfl
      · cases a with
        | none => rfl
        | some a => simp [Addr.add]
    rw [q2]
    refine .vec hd (by omega) (by omega) fun b k' ds e => ?_
    obtain ⟨r1, r2, r3, r4⟩ := hv b k' ds e
    have hle : (h'.getD (n : Int)).toNat * k ≤ n * k := Nat.mul_le_mul_right k (by omega)
    refine ⟨r1, by omega, fun hb => ?_, r4⟩
    obtain ⟨r5, r6, r7⟩ := r3 hb
    exact ⟨by omega, r6, r7⟩
  · split at hk3
    · rename_i es hes
      refine Sound.fx hk3 fun ⟨p1, p2, p3, p0, p4, p5, p6⟩ hg w G h r hi hr => ?_
      have e1 := h2 ylo hlo hr hg p2
      have e2 := h3 yhi hhi hr hg p3
      have e4 : (h'.getD es.length - l.getD 0).toNat = (h'.getD es.length).toNat - (l.getD 0).toNat := by omega
      have nilcase : es = [] → (l.getD 0).toNat = 0 ∧ (h'.getD es.length).toNat = 0 := fun e => by subst e; simp at p5 p6 ⊢; omega
      rcases rv_list (h1 (fun d' e => hr yx x d' hx e) hg p1) hes with ⟨b, e5, e3, hsp⟩ | r'
      · obtain ⟨q1, q2⟩ := nilcase e3
        subst e3
        refine ⟨.slice b 0 0, exec_v (w' := w) ?_, ?_⟩
        · rw [e5, e1, e2]
          have := run w b 0 0 l h' p4 (by simpa using p5) (by simpa using p6) (Nat.le_refl _)
          simp only [List.length_nil] at q2
          rw [q1, q2] at this
          exact this.trans (by simp)
        · simp only [List.take_nil, List.drop_nil]
          exact .e (empty_sl hsp fun _ => rfl)
      · rcases rve_sl r' with ⟨a0, c0, e5, e3, hac⟩ | ⟨b, off, cap, k', u, e5, hcap, hm, hkk, hp, hrr⟩
        · obtain ⟨q1, q2⟩ := nilcase e3
          subst e3
          refine ⟨.slice a0 0 c0, exec_v (w' := w) ?_, ?_⟩
          · rw [e5, e1, e2]
            have := run w a0 0 c0 l h' p4 (by simpa using p5) (by simpa using p6) (Nat.zero_le _)
            simp only [List.length_nil] at q2
            rw [q1, q2] at this
            exact this.trans (by cases a0 <;> simp [Addr.add])
          · simp only [List.take_nil, List.drop_nil]
            exact .e (.nils hac)
        · refine ⟨_, exec_v (w' := w) (by rw [e5, e1, e2]; exact run w _ _ _ l h' p4 p5 p6 hcap), .e ?_⟩
          by_cases hcl : cap = (l.getD 0).toNat
          · rw [if_pos hcl]
            have q1 : (h'.getD es.length).toNat - (l.getD 0).toNat = 0 := by omega
            have q2 : (es.take (h'.getD es.length).toNat).drop (l.getD 0).toNat = [] := by apply List.drop_eq_nil_of_le; simp; omega
            rw [q1, q2]
            exact empty_sl (by simp) (by simp)
          · rw [if_neg hcl]
            simp only [Option.map_some, addr_add]
            rcases Nat.eq_zero_or_pos es.length with hl0 | hl0
            · have : es = [] := List.length_eq_zero_iff.1 hl0
              subst this
              simp only [List.take_nil, List.drop_nil]
              have q1 : (h'.getD ([] : List (List E)).length).toNat - (l.getD 0).toNat = 0 := by simp at p6 ⊢; omega
              rw [q1]
              exact empty_sl (by simp) (by simp)
            · have : k' = k0 := by
                obtain ⟨e0, he0⟩ := List.exists_mem_of_length_pos hl0
                rw [← hkk e0 he0, allLen_iff.1 p0 e0 he0]
              subst this
              exact take_drop_list hm hkk hp hrr (by omega) (by omega) (by omega)
    · exact hk3.elim

theorem s_slstr {t : TypeId} {yx : Operand} {x : X} {ylo yhi : Option Operand} {lo hi : Option X} (hx : cvX yx = some x) (hlo : opt? ylo = some lo) (hhi : opt? yhi = some hi)
    (ht : P.underlying t = some .string)
    (hk : opE P ev hpR f dr gd g (.slstr x lo hi) K) : Sound P ⟨dst, .slice t yx ylo yhi none, ty, pos, after, gu⟩ ev hpR f gd g K := by
  simp only [opE] at hk
  obtain ⟨o1, d1, hk1, h1⟩ := evG_spec hk
  obtain ⟨o2, l, hk2, h2⟩ := evO_spec hk1
  obtain ⟨o3, h', hk3, h3⟩ := evO_spec hk2
  split at hk3
  case h_2 => exact hk3.elim
  rename_i s
  refine Sound.fx hk3 fun ⟨p1, p2, p3, p4, p5, p6⟩ hg w G h r hi hr => ?_
  have e1 := h2 ylo hlo hr hg p2
  have e2 := h3 yhi hhi hr hg p3
  obtain ⟨e5, e6⟩ := rv_v (h1 (fun d' e => hr yx x d' hx e) hg p1)
  have e7 : s.data.toList.length = s.size := rfl
  rw [e7] at p5 p6
  refine ⟨.string (s.extract (l.getD 0).toNat (h'.getD s.size).toNat), exec_v (w' := w) ?_, ?_⟩
  · rw [e5, e1, e2]
    simp [Instr.sliceAt, Instr.slice, run_underlying ht, Result.andThen, run_bounds l h' p4 p5 p6 (Nat.le_refl _)]
  · have : s.extract (l.getD 0).toNat (h'.getD s.size).toNat = ⟨⟨(s.data.toList.take (h'.getD s.data.toList.length).toNat).drop (l.getD 0).toNat⟩⟩ := by
      apply ByteArray.ext
      apply Array.ext'
      rw [e7]
      simp [ByteArray.data_extract, List.drop_take]
    rw [this]
    refine rv_mkstr ?_
    have := str_bound e6
    simp only [List.length_drop, List.length_take]
    omega

theorem loadBytes_spec {w : World} {pub : Nat → Nat → Prop} {es : List (List E)} {u : Nat → Value} (hu : ∀ e ∈ es, ∃ c : UInt8, e = [.v (.int .u8 c.toNat)])
    (hr : ∀ (j : Nat) d, es.flatten[j]? = some d → RvE w pub (u j) d) : ∀ j, j < es.length → u j = .int .u8 ((u8s es).getD j 0).toNat := by
  intro j hj
  obtain ⟨c, hc⟩ := hu es[j] (List.getElem_mem hj)
  have h1 : es.flatten[j]? = some (.v (.int .u8 c.toNat)) := by
    have hk : ∀ e ∈ es, e.length = 1 := fun e he => by obtain ⟨c, hc⟩ := hu e he; simp [hc]
    have := flatten_get hk j es[j] 0 (by simp [hj]) (by omega)
    simpa [hc] using this
  have h2 := hr j _ h1
  generalize u j = z at h2
  cases h2 with
  | v h2 => simp [u8s, List.getD, hj, hc]

theorem push_all (l : List UInt8) : ∀ s : ByteArray, (l.map fun c => (c.toNat : Int)).foldl (fun r n => r.push (UInt8.ofNat n.toNat)) s = ⟨⟨s.data.toList ++ l⟩⟩ := by
  induction l with
  | nil => intro s; simp
  | cons c l ih =>
    intro s
    simp only [List.map_cons, List.foldl_cons, ih]
    apply ByteArray.ext
    apply Array.ext'
    simp

theorem s_convbs {s d e : TypeId} {yx : Operand} {x : X} (hx : cvX yx = some x) (hs : P.underlying s = some (.slice e)) (hd : P.underlying d = some .string) (he : P.underlying e = some (.int .u8))
    (hk : opE P ev hpR f dr gd g (.convbs x) K) : Sound P ⟨dst, .convert s d yx, ty, pos, after, gu⟩ ev hpR f gd g K := by
  simp only [opE] at hk
  obtain ⟨o1, d1, hk1, h1⟩ := evG_spec hk
  split at hk1
  case h_2 => exact hk1.elim
  rename_i es hes
  refine Sound.fx hk1 fun ⟨p1, p2⟩ hg w G h r hi hr => ?_
  have run : ∀ v, (convert s d v).run P w = (Conv.bytesToString v).run P w ∨ ¬ ∃ a n c, v = .slice a n c := fun v => by
    cases v <;> first | (right; rintro ⟨_, _, _, h⟩; cases h; done) | skip
    left
    rename_i a n c
    cases a <;> simp [convert, run_underlying hs, run_underlying hd, run_underlying he, Result.andThen]
  rcases rv_list (h1 (fun d' e => hr yx x d' hx e) hg p1) hes with ⟨b, e5, e3, hsp⟩ | r'
  · subst e3
    refine ⟨.string .empty, exec_v (w' := w) ?_, rv_mkstr (Nat.zero_le _)⟩
    rw [e5, (run _).resolve_right (fun h => h ⟨_, _, _, rfl⟩)]
    cases b with
    | none => rfl
    | some a => simp [Conv.bytesToString, loadCells, loadCellsFrom]
  · rcases rve_sl r' with ⟨a0, c0, e5, e3, _⟩ | ⟨b, off, cap, k', u, e5, hcap, hm, hkk, hp, hrr⟩
    · subst e3
      refine ⟨.string .empty, exec_v (w' := w) ?_, rv_mkstr (Nat.zero_le _)⟩
      rw [e5, (run _).resolve_right (fun h => h ⟨_, _, _, rfl⟩)]
      cases a0 with
      | none => rfl
      | some a => simp [Conv.bytesToString, loadCells, loadCellsFrom]
    · have hu := loadBytes_spec p2 hrr
      have hl : (u8s es).length = es.length := by simp [u8s]
      have hk1' : ∀ j, j < es.length → w.cell? ⟨b, off + j, none⟩ = some (u j) := fun j hj => by
        have k1 : k' = 1 := by
          obtain ⟨c, hc⟩ := p2 es[j] (List.getElem_mem hj)
          rw [← hkk es[j] (List.getElem_mem hj), hc]; rfl
        exact (hp j (by rw [k1]; omega)).2
      have hlc : (loadCells ⟨b, off, none⟩ es.length).run P w = .ok (((u8s es).map fun c => (c.toNat : Int)).map (Value.int .u8)).toArray w := by
        rw [run_loadCells w ⟨b, off, none⟩ es.length u (fun j hj => by rw [addr_add]; exact hk1' j hj)]
        congr 2
        apply List.ext_getElem?
        intro j
        by_cases hj : j < es.length
        · simp [hj, hu j hj, List.getElem?_eq_getElem (show j < (u8s es).length by omega)]
        · simp [List.getElem?_eq_none (show (u8s es).length ≤ j by omega), hj]
      refine ⟨.string ⟨⟨u8s es⟩⟩, exec_v (w' := w) ?_, rv_mkstr (by rw [hl]; exact hm)⟩
      rw [e5, (run _).resolve_right (fun h => h ⟨_, _, _, rfl⟩), run_bytesToString w _ _ _ _ hlc, push_all]
      rfl

theorem toEs_rel {w : World} {G : Gh} {h : Hp} : ∀ {ds : List D} {es : List E}, toEs ds = some es → es.length = ds.length ∧ ∀ (j : Nat) v e d, ds[j]? = some d → es[j]? = some e → Rv w G h v d → RvE w G.pub v e := by
  intro ds
  induction ds with
  | nil => intro es h; simp [toEs] at h; subst h; simp
  | cons d r ih =>
    intro es he
    simp only [toEs, Option.bind_eq_some_iff, Option.map_eq_some_iff] at he
    obtain ⟨x, hx, r', hr', rfl⟩ := he
    obtain ⟨h1, h2⟩ := ih hr'
    refine ⟨by simp [h1], fun j v e d' hd he hv => ?_⟩
    cases j with
    | zero =>
      simp at hd he; subst hd; subst he
      cases hv <;> simp [D.toE] at hx
      · subst hx; assumption
      · subst hx; assumption
      · subst hx; exact empty_sl (by assumption) fun _ => rfl
    | succ j => exact h2 j v e d' (by simpa using hd) (by simpa using he) hv

theorem toE_rel {w : World} {G : Gh} {h : Hp} {d : D} {e : E} {v : Value} (he : d.toE = some e) (hv : Rv w G h v d) : RvE w G.pub v e := by
  have : toEs [d] = some [e] := by simp [toEs, he]
  exact (toEs_rel this).2 0 v e d rfl rfl hv

theorem s_mki {t : TypeId} {yx : Operand} {x : X} (hx : cvX yx = some x) (ht : ∃ d, P.underlying t = some d ∧ ∀ ms, d ≠ .interface ms)
    (hk : opE P ev hpR f dr gd g (.mki t x) K) : Sound P ⟨dst, .makeInterface t yx, ty, pos, after, gu⟩ ev hpR f gd g K := by
  obtain ⟨d0, hd0, hni⟩ := ht
  have run : ∀ (w : World) v, (Instr.makeInterface t v).run P w = .ok (.iface t v) w := fun w v => by
    simp only [Instr.makeInterface, Sem.run_bind, run_underlying hd0, Result.andThen]
    cases d0 <;> first | rfl | exact absurd rfl (hni _)
  simp only [opE] at hk
  obtain ⟨o1, d1, hk1, h1⟩ := evG_spec hk
  split at hk1
  · split at hk1
    · rename_i ds _ es hes
      refine Sound.pure (tc := []) hk1 fun p1 hg w G h r hi _ hr => ?_
      obtain ⟨cs, e1, hl, h3, h4⟩ := rv_agg (h1 (fun d' e => hr yx x d' hx e) hg p1)
      obtain ⟨q1, q2⟩ := toEs_rel (w := w) (G := G) (h := h) hes
      refine ⟨_, exec_v (w' := w) (run w _), ?_⟩
      rw [e1]
      refine .e (.ia (by omega) fun j c d hc hd => ?_)
      have hj : j < ds.length := by rw [← q1]; exact (List.getElem?_eq_some_iff.1 hd).1
      exact q2 j c d _ (List.getElem?_eq_getElem hj) hd (h4 j c _ hc (List.getElem?_eq_getElem hj))
    · exact hk1.elim
  · split at hk1
    · rename_i y hy
      refine Sound.pure (tc := []) hk1 fun p1 hg w G h r hi _ hr => ?_
      exact ⟨_, exec_v (w' := w) (run w _), .e (.iv (toE_rel hy (h1 (fun d' e => hr yx x d' hx e) hg p1)))⟩
    · exact hk1.elim
end
end Go.Proofs.Ytmnhoglkahmlaaa.Ab
