/- The abstract view of memory: what a value of the machine reads as, and what a step may change. -/
import Derived.Orders
import Derived.Tactics
import Derived.Laws.World
import Derived.Laws.Sem
import Derived.Below
set_option linter.unusedSimpArgs false
set_option linter.unusedVariables false
set_option linter.unnecessarySimpa false
set_option linter.constructorNameAsVariable false
namespace Go.Proofs.Ytmnhoglkahmlaaa.Ab
open Go

/-- Plain data: what a value reads as once nothing of it can be written any more. -/
inductive E where
  | v (x : Value)
  | sl (es : List (List E))
  | iv (t : TypeId) (x : E)
  | ia (t : TypeId) (ds : List E)
  deriving Inhabited

/-- What a slot of a frame holds. -/
inductive D where
  | e (x : E)
  | agg (ds : List D)
  | own (i : Nat) (es : List (List E))
  | zs
  | bs (i off n k : Nat)
  | rp (ds : List E)
  | ref (i off : Nat)
  | refs (i off : Nat)
  | tup (ds : List D)
  | when (g : Bool) (d : D)
  | fn (f : Fn) (first caps : List D)
  | vec (i n k : Nat)
  | vref (i off : Nat)
  | mp (i : Nat)
  | any
  deriving Inhabited

/-- A thing in memory that is still written. -/
inductive O where
  | dead
  | box (ds : List D)
  | front (n k : Nat)
  | vec (b : Bool) (k : Nat) (ds : List D)
  | gone
  | smap (l : List (List UInt8 × E))
  deriving Inhabited

structure Gh where
  pub : Nat → Nat → Prop
  blk : Nat → Nat

abbrev Hp := Nat → O

def O.has : O → Bool
  | .box _ => true
  | .front n _ => 0 < n
  | .vec b _ _ => b
  | .gone => false
  | .smap _ => true
  | .dead => false

def maxN : Nat := 140737488355328

/-- A value of one cell that a process can hold. -/
def okV : Value → Bool
  | .agg _ | .tuple _ => false
  | .string s => decide (s.size ≤ maxN)
  | .int k n => decide (k.min ≤ n ∧ n ≤ k.max)
  | _ => true

theorem okV.cell {x : Value} (h : okV x = true) : x.oneCell' = true := by
  cases x <;> first | rfl | simp [okV] at h

section
variable (w : World) (pub : Nat → Nat → Prop)
inductive RvE : Value → E → Prop
  | v {x} (h : okV x = true) : RvE x (.v x)
  | nils {a : Option Addr} {cap : Nat} (h : a = none → cap = 0) : RvE (.slice a 0 cap) (.sl [])
  | sl {b off n cap k es} (u : Nat → Value) (hn : es.length = n) (hc : n ≤ cap) (hm : n ≤ maxN) (hk : ∀ e ∈ es, e.length = k)
      (hp : ∀ j, j < n * k → pub b (off + j) ∧ w.cell? ⟨b, off + j, none⟩ = some (u j))
      (hr : ∀ j d, es.flatten[j]? = some d → RvE (u j) d) : RvE (.slice (some ⟨b, off, none⟩) n cap) (.sl es)
  | iv {t x d} (h : RvE x d) : RvE (.iface t x) (.iv t d)
  | ia {t} {cs : Array Value} {ds : List E} (hl : cs.size = ds.length) (h : ∀ (j : Nat) c d, cs[j]? = some c → ds[j]? = some d → RvE c d) :
      RvE (.iface t (.agg cs)) (.ia t ds)
end

theorem RvE.cell {w pub x d} (h : RvE w pub x d) : x.oneCell' = true := by
  cases h <;> first | exact okV.cell (by assumption) | rfl

theorem RvE.mono {w w' : World} {pub pub' : Nat → Nat → Prop} (hw : ∀ b o, pub b o → pub' b o ∧ w'.cell? ⟨b, o, none⟩ = w.cell? ⟨b, o, none⟩)
    {x d} (h : RvE w pub x d) : RvE w' pub' x d := by
  induction h with
  | v h => exact .v h
  | nils h => exact .nils h
  | sl u hn hc hm hk hp hr ih =>
    exact .sl u hn hc hm hk (fun j hj => ⟨(hw _ _ (hp j hj).1).1, ((hw _ _ (hp j hj).1).2).trans (hp j hj).2⟩) ih
  | iv h ih => exact .iv ih
  | ia hl h ih => exact .ia hl ih

def D.leaf : D → Bool
  | .agg _ | .tup _ | .when _ _ | .any => false
  | _ => true

section
variable (w : World) (G : Gh) (h : Hp)
/-- What is said of a slice that may still be appended to. -/
def TokOK (i n : Nat) (v : Value) (k : Nat) : Prop :=
  ∃ N, h i = .front N k ∧ n ≤ N ∧ (n = N → (n = 0 ∧ ∃ a, v = .slice a 0 0 ∧ ∀ x, a = some x → x.spot = none) ∨
    (0 < n ∧ ∃ cap cs T fr, v = .slice (some ⟨G.blk i, 0, none⟩) n cap ∧ w.heap[G.blk i]? = some (.cells cs T fr) ∧ cap * k ≤ cs.size))

inductive Rv : Value → D → Prop
  | e {x d} (h : RvE w G.pub x d) : Rv x (.e d)
  | agg {cs : Array Value} {ds : List D} (hl : cs.size = ds.length) (h1 : ∀ (j : Nat) c, cs[j]? = some c → c.oneCell' = true)
      (hr : ∀ (j : Nat) c d, cs[j]? = some c → ds[j]? = some d → Rv c d) : Rv (.agg cs) (.agg ds)
  | own {x i k es} (hx : RvE w G.pub x (.sl es)) (hk : ∀ e ∈ es, e.length = k) (ht : TokOK w G h i es.length x k) : Rv x (.own i es)
  | zs {a : Option Addr} (ha : ∀ x, a = some x → x.spot = none) : Rv (.slice a 0 0) .zs
  | bs {i off n cap k ds b o} (hb : h i = .box ds) (hc : n ≤ cap) (hl : n = 0 ∨ (b = G.blk i ∧ o = off ∧ off + cap * k ≤ ds.length)) (hm : n ≤ maxN) : Rv (.slice (some ⟨b, o, none⟩) n cap) (.bs i off n k)
  | rp {b off ds} (u : Nat → Value) (hp : ∀ j, j < ds.length → G.pub b (off + j) ∧ w.cell? ⟨b, off + j, none⟩ = some (u j))
      (hr : ∀ j d, ds[j]? = some d → RvE w G.pub (u j) d) : Rv (.pointer (some ⟨b, off, none⟩)) (.rp ds)
  | ref {i off ds} (hb : h i = .box ds) : Rv (.pointer (some ⟨G.blk i, off, none⟩)) (.ref i off)
  | refs {i off ds} (hb : h i = .box ds) : Rv (.pointer (some ⟨G.blk i, off, none⟩)) (.refs i off)
  | tup {cs : Array Value} {ds : List D} (hl : cs.size = ds.length) (hr : ∀ (j : Nat) c d, cs[j]? = some c → ds[j]? = some d → Rv c d) : Rv (.tuple cs) (.tup ds)
  | when {x g d} (hr : g = true → Rv x d) (hu : g = false → x = undef) : Rv x (.when g d)
  | fn {f} {first caps : Array Value} {ds es : List D} (hl : first.size = ds.length) (hr : ∀ (j : Nat) c d, first[j]? = some c → ds[j]? = some d → Rv c d)
      (hl' : caps.size = es.length) (hr' : ∀ (j : Nat) c d, caps[j]? = some c → es[j]? = some d → Rv c d) : Rv (.func f first caps) (.fn f ds es)
  | vec {i n k a cap} (hd : h i ≠ .dead) (hm : n ≤ maxN) (hc : n ≤ cap) (hv : ∀ b k' ds, h i = .vec b k' ds → k' = k ∧ n * k ≤ ds.length ∧ (b = false → n = 0 ∧ cap = 0 ∧ ∀ x, a = some x → x.spot = none) ∧
      (b = true → a = some ⟨G.blk i, 0, none⟩ ∧ ∃ cs T fr, w.heap[G.blk i]? = some (.cells cs T fr) ∧ cap * k ≤ cs.size)) : Rv (.slice a n cap) (.vec i n k)
  | vref {i off x} (hd : h i ≠ .dead) (hv : ∀ b k ds, h i = .vec b k ds → b = true ∧ x = G.blk i) : Rv (.pointer (some ⟨x, off, none⟩)) (.vref i off)
  | mp {i l} (hb : h i = .smap l) : Rv (.map (some (G.blk i))) (.mp i)
  | any {x} : Rv x .any

/-- Memory is as the abstract heap says. -/
structure Inv : Prop where
  lt : ∀ i, (h i).has = true → G.blk i < w.heap.size
  inj : ∀ i j, (h i).has = true → (h j).has = true → G.blk i = G.blk j → i = j
  publt : ∀ b o, G.pub b o → b < w.heap.size
  box : ∀ i ds, h i = .box ds → (∀ o, ¬ G.pub (G.blk i) o) ∧ ∃ cs T, w.heap[G.blk i]? = some (.cells cs T (0, 0)) ∧ cs.size = ds.length ∧
    ∀ (j : Nat) c d, cs[j]? = some c → ds[j]? = some d → Rv w G h c d ∧ c.oneCell' = true
  front : ∀ i n k, h i = .front n k → 0 < n → (∃ cs T, w.heap[G.blk i]? = some (.cells cs T (0, 0))) ∧
    (∀ o, n * k ≤ o → ¬ G.pub (G.blk i) o)
  vec : ∀ i b k ds, h i = .vec b k ds → (b = false → ds = []) ∧ (b = true → (∀ o, ¬ G.pub (G.blk i) o) ∧ ∃ cs T, w.heap[G.blk i]? = some (.cells cs T (0, 0)) ∧ ds.length ≤ cs.size ∧
    ∀ (j : Nat) c d, cs[j]? = some c → ds[j]? = some d → Rv w G h c d ∧ c.oneCell' = true)
  smap : ∀ i l, h i = .smap l → (∀ o, ¬ G.pub (G.blk i) o) ∧ ∃ es clock, w.heap[G.blk i]? = some (.map es clock) ∧ es.size = l.length ∧
    ∀ (j : Nat) e p, es[j]? = some e → l[j]? = some p → e.key = .string ⟨⟨p.1⟩⟩ ∧ RvE w G.pub e.val p.2
end

/-- What a step may change. -/
structure Ext (w : World) (G : Gh) (h : Hp) (w' : World) (G' : Gh) (h' : Hp) : Prop where
  os : w'.os = w.os
  tape : w'.tape = w.tape
  output : w'.output = w.output
  size : w.heap.size ≤ w'.heap.size
  pub : ∀ b o, G.pub b o → G'.pub b o ∧ w'.cell? ⟨b, o, none⟩ = w.cell? ⟨b, o, none⟩
  box : ∀ i ds, h i = .box ds → (∃ ds', h' i = .box ds' ∧ ds'.length = ds.length) ∧ G'.blk i = G.blk i
  tok : ∀ i n k, h i = .front n k → ∃ n', h' i = .front n' k ∧ n ≤ n' ∧ (n' = n → 0 < n → G'.blk i = G.blk i ∧ w'.shape? (G.blk i) = w.shape? (G.blk i))
  others : ∀ b, b < w.heap.size → (∀ i, (h i).has = true → G.blk i ≠ b) → w'.heap[b]? = w.heap[b]?
  new : ∀ i, (h' i).has = true → (∃ j, (h j).has = true ∧ G'.blk i = G.blk j) ∨ w.heap.size ≤ G'.blk i
  pubnew : ∀ b o, G'.pub b o → G.pub b o ∨ w.heap.size ≤ b ∨ ∃ i, (h i).has = true ∧ G.blk i = b
  vec : ∀ i b k ds, h i = .vec b k ds → h' i = .gone ∨ ∃ ds', h' i = .vec b k ds' ∧ ds.length ≤ ds'.length ∧ (b = true → G'.blk i = G.blk i ∧ w'.shape? (G.blk i) = w.shape? (G.blk i))
  gone : ∀ i, h i = .gone → h' i = .gone
  smap : ∀ i l, h i = .smap l → (∃ l', h' i = .smap l') ∧ G'.blk i = G.blk i

theorem Ext.refl (w : World) (G : Gh) (h : Hp) : Ext w G h w G h :=
  ⟨rfl, rfl, rfl, Nat.le_refl _, fun _ _ p => ⟨p, rfl⟩, fun _ ds e => ⟨⟨ds, e, rfl⟩, rfl⟩, fun _ n _ e => ⟨n, e, Nat.le_refl _, fun _ _ => ⟨rfl, rfl⟩⟩, fun _ _ _ => rfl,
    fun i e => .inl ⟨i, e, rfl⟩, fun _ _ p => .inl p, fun _ _ _ ds e => .inr ⟨ds, e, Nat.le_refl _, fun _ => ⟨rfl, rfl⟩⟩, fun _ e => e, fun _ l e => ⟨⟨l, e⟩, rfl⟩⟩

theorem Ext.trans {w G h w' G' h' w'' G'' h''} (a : Ext w G h w' G' h') (b : Ext w' G' h' w'' G'' h'') : Ext w G h w'' G'' h'' where
  os := b.os.trans a.os
  tape := b.tape.trans a.tape
  output := b.output.trans a.output
  size := Nat.le_trans a.size b.size
  pub := fun x o p => ⟨(b.pub _ _ (a.pub _ _ p).1).1, ((b.pub _ _ (a.pub _ _ p).1).2).trans (a.pub _ _ p).2⟩
  box := fun i ds e => by
    obtain ⟨⟨ds', e', l'⟩, g'⟩ := a.box i ds e
    obtain ⟨⟨ds'', e'', l''⟩, g''⟩ := b.box i ds' e'
    exact ⟨⟨ds'', e'', l''.trans l'⟩, g''.trans g'⟩
  tok := fun i n k e => by
    obtain ⟨n', e', l', g'⟩ := a.tok i n k e
    obtain ⟨n'', e'', l'', g''⟩ := b.tok i n' k e'
    refine ⟨n'', e'', Nat.le_trans l' l'', fun q q0 => ?_⟩
    have q1 : n' = n := by omega
    have q2 : n'' = n' := by omega
    obtain ⟨x1, x2⟩ := g' q1 q0
    obtain ⟨y1, y2⟩ := g'' q2 (by omega)
    exact ⟨y1.trans x1, by rw [← x2, ← x1, y2]⟩
  others := fun x hx ho => by
    have e1 := a.others x hx ho
    refine (b.others x (Nat.lt_of_lt_of_le hx a.size) fun i hi he => ?_).trans e1
    rcases a.new i hi with ⟨j, h1, h2⟩ | h1
    · exact ho j h1 (by rw [← h2]; exact he)
    · omega
  new := fun i hi => by
    rcases b.new i hi with ⟨j, h1, h2⟩ | h1
    · rcases a.new j h1 with ⟨j', h3, h4⟩ | h3
      · exact .inl ⟨j', h3, h2.trans h4⟩
      · exact .inr (by rw [h2]; exact h3)
    · exact .inr (Nat.le_trans a.size h1)
  pubnew := fun x o p => by
    rcases b.pubnew x o p with h1 | h1 | ⟨i, h1, h2⟩
    · exact a.pubnew x o h1
    · exact .inr (.inl (Nat.le_trans a.size h1))
    · rcases a.new i h1 with ⟨j, h3, h4⟩ | h3
      · exact .inr (.inr ⟨j, h3, by rw [← h4]; exact h2⟩)
      · exact .inr (.inl (by rw [← h2]; exact h3))
  vec := fun i x k ds e => by
    rcases a.vec i x k ds e with g | ⟨ds', e', l', g'⟩
    · exact .inl (b.gone i g)
    · rcases b.vec i x k ds' e' with g | ⟨ds'', e'', l'', g''⟩
      · exact .inl g
      · refine .inr ⟨ds'', e'', Nat.le_trans l' l'', fun q => ?_⟩
        obtain ⟨x1, x2⟩ := g' q
        obtain ⟨y1, y2⟩ := g'' q
        exact ⟨y1.trans x1, by rw [← x2, ← x1, y2]⟩
  gone := fun i e => b.gone i (a.gone i e)
  smap := fun i l e => by
    obtain ⟨⟨l', e'⟩, g'⟩ := a.smap i l e
    obtain ⟨h'', g''⟩ := b.smap i l' e'
    exact ⟨h'', g''.trans g'⟩

theorem shape_size {w : World} {b : Nat} {cs : Array Value} {T : TypeId} {fr : Nat × Nat} (h : w.heap[b]? = some (.cells cs T fr)) : w.shape? b = some (T, cs.size) := by
  simp [World.shape?, h]

theorem of_shape {w : World} {b : Nat} {T : TypeId} {n : Nat} (h : w.shape? b = some (T, n)) : ∃ cs fr, w.heap[b]? = some (.cells cs T fr) ∧ cs.size = n := by
  unfold World.shape? at h
  split at h
  · rename_i c e f hb
    simp only [Option.some.injEq, Prod.mk.injEq] at h
    obtain ⟨rfl, rfl⟩ := h
    exact ⟨c, f, hb, rfl⟩
  · simp at h

theorem Ext.alive {w G h w' G' h'} (x : Ext w G h w' G' h') {i : Nat} (hd : h i ≠ .dead) : h' i ≠ .dead ∧ ∀ b k ds, h' i = .vec b k ds → ∃ ds0, h i = .vec b k ds0 ∧ ds0.length ≤ ds.length ∧ (b = true → G'.blk i = G.blk i ∧ w'.shape? (G.blk i) = w.shape? (G.blk i)) := by
  cases e : h i with
  | dead => exact absurd e hd
  | box ds =>
    obtain ⟨⟨ds', e', _⟩, _⟩ := x.box i ds e
    exact ⟨by rw [e']; simp, fun b k ds e2 => by rw [e'] at e2; cases e2⟩
  | front n k =>
    obtain ⟨n', e', _⟩ := x.tok i n k e
    exact ⟨by rw [e']; simp, fun b k ds e2 => by rw [e'] at e2; cases e2⟩
  | vec b k ds =>
    rcases x.vec i b k ds e with e' | ⟨ds', e', l', g'⟩
    · exact ⟨by rw [e']; simp, fun b k ds e2 => by rw [e'] at e2; cases e2⟩
    · exact ⟨by rw [e']; simp, fun b2 k2 ds2 e2 => by rw [e'] at e2; cases e2; exact ⟨ds, rfl, l', g'⟩⟩
  | gone =>
    have e' := x.gone i e
    exact ⟨by rw [e']; simp, fun b k ds e2 => by rw [e'] at e2; cases e2⟩
  | smap l =>
    obtain ⟨⟨l', e'⟩, _⟩ := x.smap i l e
    exact ⟨by rw [e']; simp, fun b k ds e2 => by rw [e'] at e2; cases e2⟩

theorem Rv.ext {w G h w' G' h'} (x : Ext w G h w' G' h') {v d} (r : Rv w G h v d) : Rv w' G' h' v d := by
  induction r with
  | e h => exact .e (h.mono x.pub)
  | agg hl h1 _ ih => exact .agg hl h1 ih
  | own hx hk ht =>
    refine .own (hx.mono x.pub) hk ?_
    obtain ⟨N, e, l, t⟩ := ht
    obtain ⟨N', e', l', t'⟩ := x.tok _ _ _ e
    refine ⟨N', e', Nat.le_trans l l', fun q => ?_⟩
    have q1 : N' = N := by omega
    rcases t (by omega) with t | ⟨t0, cap, cs, T, fr, t1, t2, t3⟩
    · exact .inl t
    · obtain ⟨g1, g2⟩ := t' q1 (by omega)
      rw [shape_size t2] at g2
      obtain ⟨cs', fr', c1, c2⟩ := of_shape g2
      exact .inr ⟨t0, cap, cs', T, fr', by rw [g1]; exact t1, by rw [g1]; exact c1, by rw [c2]; exact t3⟩
  | zs ha => exact .zs ha
  | bs hb hc hl hm =>
    obtain ⟨⟨ds', e', l'⟩, g⟩ := x.box _ _ hb
    exact .bs e' hc (by rw [l', g]; exact hl) hm
  | rp u hp hr => exact .rp u (fun j hj => ⟨(x.pub _ _ (hp j hj).1).1, ((x.pub _ _ (hp j hj).1).2).trans (hp j hj).2⟩) fun j d hj => (hr j d hj).mono x.pub
  | ref hb =>
    obtain ⟨⟨ds', e', l'⟩, g⟩ := x.box _ _ hb
    rw [← g]
    exact .ref e'
  | refs hb =>
    obtain ⟨⟨ds', e', l'⟩, g⟩ := x.box _ _ hb
    rw [← g]
    exact .refs e'
  | tup hl _ ih => exact .tup hl ih
  | when _ hu ih => exact .when ih hu
  | fn hl _ hl' _ ih ih' => exact .fn hl ih hl' ih'
  | vec hd hm hc hv =>
    obtain ⟨h1, h2⟩ := x.alive hd
    refine .vec h1 hm hc fun b k ds e => ?_
    obtain ⟨ds0, e0, l0, g0⟩ := h2 b k ds e
    obtain ⟨q1, q2, q3, q4⟩ := hv b k ds0 e0
    refine ⟨q1, Nat.le_trans q2 l0, q3, fun hb => ?_⟩
    obtain ⟨q5, cs, T, fr, q6, q7⟩ := q4 hb
    obtain ⟨g1, g2⟩ := g0 hb
    rw [shape_size q6] at g2
    obtain ⟨cs', fr', c1, c2⟩ := of_shape g2
    exact ⟨by rw [g1]; exact q5, cs', T, fr', by rw [g1]; exact c1, by rw [c2]; exact q7⟩
  | vref hd hv =>
    obtain ⟨h1, h2⟩ := x.alive hd
    refine .vref h1 fun b k ds e => ?_
    obtain ⟨ds0, e0, l0, g0⟩ := h2 b k ds e
    obtain ⟨q1, q2⟩ := hv b k ds0 e0
    exact ⟨q1, by rw [(g0 q1).1]; exact q2⟩
  | mp hb =>
    obtain ⟨⟨l', e'⟩, g⟩ := x.smap _ _ hb
    rw [← g]
    exact .mp e'
  | any => exact .any

/-- A reference into a buffer, as a reference. -/
def D.nr : D → D
  | .refs i off => .ref i off
  | d => d

theorem Rv.nr {w G h} {v : Value} {d : D} (r : Rv w G h v d) : Rv w G h v d.nr := by
  cases r <;> first | exact .ref (by assumption) | (constructor <;> assumption)

end Go.Proofs.Ytmnhoglkahmlaaa.Ab
