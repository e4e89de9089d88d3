/- What is written in place is handed on: lent to a call that only looks, or published. -/
import Derived.Test.YtmnhoglkahmlaaaAb16
set_option linter.unusedSimpArgs false
set_option linter.unusedVariables false
set_option linter.unnecessarySimpa false
set_option linter.constructorNameAsVariable false
namespace Go.Proofs.Ytmnhoglkahmlaaa.Ab
open Go

/-- What is handed back is taken for less, twice. -/
theorem FinV.trans {l0 l1 l2 l3 : List O} {d1 d2 d3 : D} (a : FinV l0 l1 d1 l2 d2) (b : FinV l0 l2 d2 l3 d3) : FinV l0 l1 d1 l3 d3 := by
  intro w G v hi hr
  obtain ⟨G1, r1, i1, e1⟩ := a w G v hi hr
  obtain ⟨G2, r2, i2, e2⟩ := b w G1 v i1 r1
  exact ⟨G2, r2, i2, fun w0 G0 e => e2 _ _ (e1 _ _ e)⟩

/-- A slice that is written in place is published. -/
theorem take_get {ds : List D} {m : Nat} {xs : List E} (h : ds.take m = xs.map .e) {j : Nat} {d : E} (hd : xs[j]? = some d) (hj : j < m) : ds[j]? = some (.e d) := by
  have := congrArg (·[j]?) h
  simp only [List.getElem?_take, if_pos hj, List.getElem?_map, hd] at this
  exact this

theorem vec_pub {w : World} {G : Gh} {h h' : Hp} {i k : Nat} {b : Bool} {ds : List D} {es : List (List E)} (hi : Inv w G h) (hb : h i = .vec b k ds) (hds : ds.take (es.length * k) = es.flatten.map .e) (hk : ∀ e ∈ es, e.length = k) (h1 : h' i = .gone) (h2 : ∀ j, j ≠ i → h' j = h j) :
    ∃ G', Inv w G' h' ∧ Ext w G h w G' h' ∧ ∀ v, Rv w G h v (.vec i es.length k) → Rv w G' h' v (.e (.sl es)) := by
  have hlt : b = true → G.blk i < w.heap.size := fun e => hi.lt i (by rw [hb]; exact e)
  have hfl : es.flatten.length = es.length * k := flatten_len hk
  have hap : ∀ j, j ≠ i → (h j).has = true → b = true → G.blk j ≠ G.blk i := fun j hj hh hbt e => hj (hi.inj _ _ hh (by rw [hb]; exact hbt) e)
  have x : Ext w G h w ⟨fun x o => G.pub x o ∨ (b = true ∧ x = G.blk i ∧ o < es.length * k), G.blk⟩ h' := {
    os := rfl
    tape := rfl
    output := rfl
    size := Nat.le_refl _
    pub := fun _ _ p => ⟨.inl p, rfl⟩
    box := fun j ds e => by
      have : j ≠ i := fun q => by rw [q, hb] at e; cases e
      exact ⟨⟨ds, by rw [h2 j this, e], rfl⟩, rfl⟩
    tok := fun j n k e => by
      have : j ≠ i := fun q => by rw [q, hb] at e; cases e
      exact ⟨n, by rw [h2 j this, e], Nat.le_refl _, fun _ _ => ⟨rfl, rfl⟩⟩
    others := fun _ _ _ => rfl
    new := fun j hj => by
      have : j ≠ i := fun q => by rw [q, h1] at hj; cases hj
      rw [h2 j this] at hj
      exact .inl ⟨j, hj, rfl⟩
    pubnew := fun x o p => by
      rcases p with p | ⟨hbt, rfl, _⟩
      · exact .inl p
      · exact .inr (.inr ⟨i, by rw [hb]; exact hbt, rfl⟩)
    vec := fun j b k ds e => by
      by_cases q : j = i
      · subst q; exact .inl h1
      · exact .inr ⟨ds, by rw [h2 j q, e], Nat.le_refl _, fun _ => ⟨rfl, rfl⟩⟩
    gone := fun j e => by
      have : j ≠ i := fun q => by rw [q, hb] at e; cases e
      rw [h2 j this, e]
    smap := fun j l e => by
      have : j ≠ i := fun q => by rw [q, hb] at e; cases e
      exact ⟨⟨l, by rw [h2 j this, e]⟩, rfl⟩ }
  refine ⟨_, ⟨fun j hj => ?_, fun j j' hj hj' e => ?_, fun x o p => ?_, fun j ds e => ?_, fun j n k' e hn => ?_, fun j b' k' ds e => ?_, fun j l e => ?_⟩, x, fun v hv => ?_⟩
  · have : j ≠ i := fun q => by rw [q, h1] at hj; cases hj
    rw [h2 j this] at hj
    exact hi.lt j hj
  · have q : j ≠ i := fun q => by rw [q, h1] at hj; cases hj
    have q' : j' ≠ i := fun q => by rw [q, h1] at hj'; cases hj'
    rw [h2 j q] at hj
    rw [h2 j' q'] at hj'
    exact hi.inj _ _ hj hj' e
  · rcases p with p | ⟨hbt, rfl, _⟩
    · exact hi.publt _ _ p
    · exact hlt hbt
  · have q : j ≠ i := fun q => by rw [q, h1] at e; cases e
    rw [h2 j q] at e
    obtain ⟨a1, cs, T, a2, a3, a4⟩ := hi.box j ds e
    refine ⟨fun o p => ?_, cs, T, a2, a3, fun m c d hc hd => ⟨(a4 m c d hc hd).1.ext x, (a4 m c d hc hd).2⟩⟩
    rcases p with p | ⟨hbt, p, _⟩
    · exact a1 o p
    · exact hap j q (by rw [e]; rfl) hbt p
  · have q : j ≠ i := fun q => by rw [q, h1] at e; cases e
    rw [h2 j q] at e
    obtain ⟨a1, a2⟩ := hi.front j n k' e hn
    refine ⟨a1, fun o ho p => ?_⟩
    rcases p with p | ⟨hbt, p, _⟩
    · exact a2 o ho p
    · exact hap j q (by rw [e]; simp [O.has, hn]) hbt p
  · have q : j ≠ i := fun q => by rw [q, h1] at e; cases e
    rw [h2 j q] at e
    obtain ⟨a0, a⟩ := hi.vec j b' k' ds e
    refine ⟨a0, fun hb' => ?_⟩
    obtain ⟨a1, cs, T, a2, a3, a4⟩ := a hb'
    refine ⟨fun o p => ?_, cs, T, a2, a3, fun m c d hc hd => ⟨(a4 m c d hc hd).1.ext x, (a4 m c d hc hd).2⟩⟩
    rcases p with p | ⟨hbt, p, _⟩
    · exact a1 o p
    · exact hap j q (by rw [e]; exact hb') hbt p
  · have q : j ≠ i := fun q => by rw [q, h1] at e; cases e
    rw [h2 j q] at e
    obtain ⟨a1, es', ck, a2, a3, a4⟩ := hi.smap j l e
    refine ⟨fun o p => ?_, es', ck, a2, a3, fun m e p a b => ⟨(a4 m e p a b).1, (a4 m e p a b).2.mono x.pub⟩⟩
    rcases p with p | ⟨hbt, p, _⟩
    · exact a1 o p
    · exact hap j q (by rw [e]; rfl) hbt p
  · obtain ⟨a, cap, rfl, _, hm, hnc, hvo⟩ := rv_vec hv
    obtain ⟨_, hlen, hf, ht⟩ := hvo _ _ _ hb
    refine .e ?_
    cases b with
    | false =>
      obtain ⟨h0, rfl, hsp⟩ := hf rfl
      have : es = [] := List.length_eq_zero_iff.1 h0
      subst this
      exact .nils fun _ => rfl
    | true =>
      obtain ⟨rfl, _⟩ := ht rfl
      obtain ⟨uu, hu1, hu2⟩ := vec_cells hi hb
      have hlen : es.length * k ≤ ds.length := by have := congrArg List.length hds; rw [List.length_take, List.length_map, hfl] at this; omega
      refine .sl (k := k) uu rfl hnc hm hk (fun j hj => ?_) (fun j d hd => ?_)
      · rw [Nat.zero_add]
        exact ⟨.inr ⟨rfl, rfl, hj⟩, hu1 j (by omega)⟩
      · have hj : j < es.length * k := by rw [← hfl]; exact (List.getElem?_eq_some_iff.1 hd).1
        have := (hu2 j (.e d) (take_get hds hd hj)).1
        exact (rv_e this).mono x.pub

theorem hpF_set {l : List O} {i : Nat} {o : O} (hi : i < l.length) : hpF (l.set i o) i = o ∧ ∀ j, j ≠ i → hpF (l.set i o) j = hpF l j := by
  refine ⟨by simp [hpF, List.getD, hi], fun j hj => ?_⟩
  simp [hpF, List.getD, List.getElem?_set_ne (Ne.symm hj)]

theorem hp_lt {l : List O} {i : Nat} (h : hpF l i ≠ .dead) : i < l.length := by
  rcases Nat.lt_or_ge i l.length with q | q
  · exact q
  · exact absurd (hpF_ge q) h

/-- A slot's slice, published, in the state. -/
theorem Weak.pub {h0 : Hp} {env : List (Nat × D)} {hp : List O} (t i n k : Nat) {b : Bool} {ds : List D} {es : List (List E)} (ht : look t env = some (.vec i n k)) (hb : hpF hp i = .vec b k ds) (hn : es.length = n) (hds : ds.take (n * k) = es.flatten.map .e) (hk : ∀ e ∈ es, e.length = k) :
    Weak h0 ⟨env, hp⟩ ⟨(t, .e (.sl es)) :: env, hp.set i .gone⟩ := by
  intro w G hi
  have hlt : i < hp.length := hp_lt (by rw [hb]; simp)
  obtain ⟨a1, a2⟩ := hpF_set (o := .gone) hlt
  obtain ⟨G', i1, x1, r1⟩ := vec_pub hi hb (by rw [hn]; exact hds) hk a1 a2
  refine ⟨G', i1, fun w0 G0 e => e.trans x1, fun t' d' hl => ?_⟩
  simp only [look] at hl
  split at hl
  · rename_i e
    subst e
    cases hl
    exact ⟨_, ht, fun v r => r1 v (by rw [hn]; exact r)⟩
  · exact ⟨d', hl, fun v r => r.ext x1⟩

/-- What is handed back, published. -/
theorem FinV.pub {l0 l : List O} {i n k : Nat} {b : Bool} {ds : List D} {es : List (List E)} (hb : hpF l i = .vec b k ds) (hn : es.length = n) (hds : ds.take (n * k) = es.flatten.map .e) (hk : ∀ e ∈ es, e.length = k) : FinV l0 l (.vec i n k) (l.set i .gone) (.e (.sl es)) := by
  intro w G v hi hr
  obtain ⟨a1, a2⟩ := hpF_set (o := .gone) (hp_lt (by rw [hb]; simp))
  obtain ⟨G', i1, x1, r1⟩ := vec_pub hi hb (by rw [hn]; exact hds) hk a1 a2
  exact ⟨G', r1 v (by rw [hn]; exact hr), i1, fun w0 G0 e => e.trans x1⟩

/-- The same, of a function that has been handed nothing that is still written. -/
theorem fin_vec {l : List O} {i n k : Nat} {b : Bool} {ds : List D} {es : List (List E)} (hb : hpF l i = .vec b k ds) (hn : es.length = n) (hds : ds.take (n * k) = es.flatten.map .e) (hk : ∀ e ∈ es, e.length = k) : FinW l (.vec i n k) (.e (.sl es)) := by
  intro w G v hi hr
  obtain ⟨G1, r1, i1, e1⟩ := FinV.pub (l0 := []) hb hn hds hk w G v hi hr
  obtain ⟨G2, r2, i2, e2⟩ := fin_pl (l := l.set i .gone) (d' := .e (.sl es)) (d := .e (.sl es)) rfl rfl w G1 v i1 r1
  exact ⟨G2, r2, i2, fun w0 G0 e => e2 _ _ (e1 _ _ e)⟩

theorem Ar.Ok.fin_vec {A : Ar} (h : A.Ok) {l : List O} {i n k : Nat} {b : Bool} {ds : List D} {es : List (List E)} (hb : hpF l i = .vec b k ds) (hn : es.length = n) (hds : ds.take (n * k) = es.flatten.map .e) (hk : ∀ e ∈ es, e.length = k) : A.fin l (.vec i n k) (.e (.sl es)) :=
  h.fin _ _ _ fun _ => Ab.fin_vec hb hn hds hk

/-! ### Lent to a call -/
mutual
/-- Nothing in it leads into memory. -/
def D.sc : D → Bool
  | .e (.v _) => true
  | .agg ds => scs ds
  | .tup ds => scs ds
  | _ => false
def scs : List D → Bool
  | [] => true
  | d :: r => d.sc && scs r
end

theorem scs_get : ∀ {ds : List D} {j : Nat} {d : D}, scs ds = true → ds[j]? = some d → d.sc = true
  | [], j, d, _, hd => by simp at hd
  | x :: r, 0, d, h, hd => by
    simp only [scs, Bool.and_eq_true] at h
    simp at hd; subst hd; exact h.1
  | x :: r, j + 1, d, h, hd => by
    simp only [scs, Bool.and_eq_true] at h
    exact scs_get h.2 (by simpa using hd)

theorem Rv.sc {w : World} {G : Gh} {h : Hp} {v : Value} {d : D} (r : Rv w G h v d) {w' : World} {G' : Gh} {h' : Hp} (hs : d.sc = true) : Rv w' G' h' v d := by
  induction r with
  | @e x d h =>
    cases d with
    | v y => cases h with | v h => exact .e (.v h)
    | _ => simp [D.sc] at hs
  | agg hl h1 _ ih => exact .agg hl h1 fun j c d hc hd => ih j c d hc hd (scs_get (by simpa [D.sc] using hs) hd)
  | tup hl _ ih => exact .tup hl fun j c d hc hd => ih j c d hc hd (scs_get (by simpa [D.sc] using hs) hd)
  | _ => simp [D.sc] at hs

/-- What an argument is for a call that only looks. -/
def Lent (h : Hp) (L : List Nat) (d a : D) : Prop :=
  (a = d ∧ d.free = true) ∨ (a = d.pl ∧ d.pl.free = true) ∨
  (∃ i n k b ds es, d = .vec i n k ∧ i ∈ L ∧ h i = .vec b k ds ∧ a = .e (.sl es) ∧ ds.take (n * k) = es.flatten.map .e ∧ es.length = n ∧ ∀ e ∈ es, e.length = k) ∨
  (∃ i n k ds es, d = .bs i 0 n k ∧ i ∈ L ∧ h i = .box ds ∧ a = .e (.sl es) ∧ ds.take (n * k) = es.flatten.map .e ∧ es.length = n ∧ ∀ e ∈ es, e.length = k)

def Lents (h : Hp) (L : List Nat) : List D → List D → Prop
  | [], [] => True
  | d :: r, a :: s => Lent h L d a ∧ Lents h L r s
  | _, _ => False

theorem Lents.len {h : Hp} {L : List Nat} : ∀ {ds as : List D}, Lents h L ds as → as.length = ds.length
  | [], [], _ => rfl
  | _ :: _, _ :: _, x => by simp [Lents.len x.2]
  | [], _ :: _, x => x.elim
  | _ :: _, [], x => x.elim

theorem Lents.get {h : Hp} {L : List Nat} : ∀ {ds as : List D} {j : Nat} {a : D}, Lents h L ds as → as[j]? = some a → ∃ d, ds[j]? = some d ∧ Lent h L d a
  | [], [], j, _, _, e => by simp at e
  | d :: _, _ :: _, 0, _, x, e => by simp at e; subst e; exact ⟨d, by simp, x.1⟩
  | _ :: _, _ :: _, j + 1, _, x, e => by obtain ⟨d, h1, h2⟩ := Lents.get x.2 (by simpa using e); exact ⟨d, by simpa using h1, h2⟩
  | [], _ :: _, _, _, x, _ => x.elim
  | _ :: _, [], _, _, x, _ => x.elim

/-- All of memory, looked at. -/
def allPub (w : World) (G : Gh) : Gh := ⟨fun b _ => b < w.heap.size, G.blk⟩

theorem allPub_inv {w : World} {G : Gh} : Inv w (allPub w G) (hpF []) := by
  rw [hpF_nil]
  exact ⟨fun i h => by simp [O.has] at h, fun i j h => by simp [O.has] at h, fun _ _ p => p, fun i ds e => by simp at e, fun i n k e => by simp at e, fun i b k ds e => by simp at e, fun i l e => by simp at e⟩

theorem Rv.freeMono {w : World} {G : Gh} {h : Hp} {v : Value} {d : D} (r : Rv w G h v d) {G' : Gh} {h' : Hp} (hf : d.free = true) (hp : ∀ b o, G.pub b o → G'.pub b o) : Rv w G' h' v d := by
  induction r with
  | e h => exact .e (h.mono fun b o p => ⟨hp b o p, rfl⟩)
  | agg hl h1 _ ih => exact .agg hl h1 fun j c d hc hd => ih j c d hc hd (frees_get (by simpa [D.free] using hf) hd)
  | own _ _ _ => simp [D.free] at hf
  | zs ha => exact .zs ha
  | bs _ _ _ _ => simp [D.free] at hf
  | rp u hu hr => exact .rp u (fun j hj => ⟨hp _ _ (hu j hj).1, (hu j hj).2⟩) fun j d hd => (hr j d hd).mono fun b o p => ⟨hp b o p, rfl⟩
  | ref _ => simp [D.free] at hf
  | refs _ => simp [D.free] at hf
  | tup hl _ ih => exact .tup hl fun j c d hc hd => ih j c d hc hd (frees_get (by simpa [D.free] using hf) hd)
  | when _ hu ih => exact .when (fun e => ih e (by simpa [D.free] using hf)) hu
  | fn hl _ hl' _ ih ih' =>
    simp only [D.free, Bool.and_eq_true] at hf
    exact .fn hl (fun j c d hc hd => ih j c d hc hd (frees_get hf.1 hd)) hl' fun j c d hc hd => ih' j c d hc hd (frees_get hf.2 hd)
  | vec _ _ _ _ => simp [D.free] at hf
  | vref _ _ => simp [D.free] at hf
  | mp _ => simp [D.free] at hf
  | any => exact .any

theorem lent_rv {w : World} {G : Gh} {h h' : Hp} {L : List Nat} (hi : Inv w G h') (he : ∀ i ∈ L, h' i = h i) {d a : D} (x : Lent h L d a) {v : Value} (r : Rv w G h' v d) : Rv w (allPub w G) (hpF []) v a := by
  have cell_lt : ∀ {b o : Nat} {u : Value}, w.cell? ⟨b, o, none⟩ = some u → b < w.heap.size := fun {b o u} e => by
    simp only [World.cell?] at e
    split at e
    · rename_i hb
      exact (Array.getElem?_eq_some_iff.1 hb).1
    · cases e
  rcases x with ⟨rfl, hf⟩ | ⟨rfl, hf⟩ | ⟨i, n, k, b, ds, es, rfl, hL, hb, rfl, h1, h2, h3⟩ | ⟨i, n, k, ds, es, rfl, hL, hb, rfl, h1, h2, h3⟩
  · exact r.freeMono hf hi.publt
  · exact r.pl.freeMono hf hi.publt
  · rw [← he i hL] at hb
    have hfl : es.flatten.length = n * k := by rw [flatten_len h3, h2]
    obtain ⟨a, cap, rfl, _, hm, hnc, hvo⟩ := rv_vec r
    obtain ⟨_, hlen, hff, ht⟩ := hvo _ _ _ hb
    refine .e ?_
    cases b with
    | false =>
      obtain ⟨rfl, rfl, _⟩ := hff rfl
      have : es = [] := List.length_eq_zero_iff.1 h2
      subst this
      exact .nils fun _ => rfl
    | true =>
      obtain ⟨rfl, _⟩ := ht rfl
      obtain ⟨uu, hu1, hu2⟩ := vec_cells hi hb
      refine .sl uu h2 hnc hm h3 (fun j hj => ?_) (fun j d hd => ?_)
      · rw [Nat.zero_add]
        have := hu1 j (by omega)
        exact ⟨cell_lt this, this⟩
      · have hj : j < n * k := by rw [← hfl]; exact (List.getElem?_eq_some_iff.1 hd).1
        exact (rv_e (hu2 j (.e d) (take_get h1 hd hj)).1).mono fun b o p => ⟨hi.publt b o p, rfl⟩
  · rw [← he i hL] at hb
    have hfl : es.flatten.length = n * k := by rw [flatten_len h3, h2]
    refine .e ?_
    cases r with
    | bs hb' hcap hl hm =>
      rename_i cap ds' b o
      rw [hb] at hb'
      cases hb'
      rcases hl with rfl | ⟨rfl, rfl, hsz⟩
      · have : es = [] := List.length_eq_zero_iff.1 h2
        subst this
        exact .sl (k := k) (fun _ => undef) rfl hcap hm h3 (fun j hj => by simp at hj) (fun j d hd => by simp at hd)
      · obtain ⟨uu, hu1, hu2⟩ := box_cells hi hb
        have hle : n * k ≤ cap * k := Nat.mul_le_mul_right k hcap
        refine .sl uu h2 hcap hm h3 (fun j hj => ?_) (fun j d hd => ?_)
        · rw [Nat.zero_add]
          have := hu1 j (by omega)
          exact ⟨cell_lt this, this⟩
        · have hj : j < n * k := by rw [← hfl]; exact (List.getElem?_eq_some_iff.1 hd).1
          exact (rv_e (hu2 j (.e d) (take_get h1 hd hj)).1).mono fun b o p => ⟨hi.publt b o p, rfl⟩

/-- Behind a call that only looked: memory is as it was. -/
theorem frame_look {w w' : World} {G G1 : Gh} {h h1 : Hp} (hi : Inv w G h) (he : Ext w (allPub w G) (hpF []) w' G1 h1) : Inv w' G h ∧ Ext w G h w' G h := by
  rw [hpF_nil] at he
  have row : ∀ b, b < w.heap.size → w'.heap[b]? = w.heap[b]? := fun b hb => he.others b hb fun j hj => by simp [O.has] at hj
  have ext : Ext w G h w' G h := {
    os := he.os
    tape := he.tape
    output := he.output
    size := he.size
    pub := fun b o p => ⟨p, by simp only [World.cell?]; rw [row b (hi.publt b o p)]⟩
    box := fun i ds e => ⟨⟨ds, e, rfl⟩, rfl⟩
    tok := fun i n k e => ⟨n, e, Nat.le_refl _, fun _ hn => ⟨rfl, by simp only [World.shape?]; rw [row _ (hi.lt i (by rw [e]; simp [O.has, hn]))]⟩⟩
    others := fun b hb _ => row b hb
    new := fun i hi => .inl ⟨i, hi, rfl⟩
    vec := fun i b k ds e => .inr ⟨ds, e, Nat.le_refl _, fun hb => ⟨rfl, by simp only [World.shape?]; rw [row _ (hi.lt i (by rw [e]; exact hb))]⟩⟩
    gone := fun _ e => e
    smap := fun _ l e => ⟨⟨l, e⟩, rfl⟩
    pubnew := fun b o p => .inl p }
  refine ⟨⟨fun i hh => Nat.lt_of_lt_of_le (hi.lt i hh) he.size, hi.inj, fun b o p => Nat.lt_of_lt_of_le (hi.publt b o p) he.size, fun i ds e => ?_, fun i n k e hn => ?_, fun i b k ds e => ?_, fun i l e => ?_⟩, ext⟩
  · obtain ⟨a1, cs, T, a2, a3, a4⟩ := hi.box i ds e
    exact ⟨a1, cs, T, by rw [← a2]; exact row _ (hi.lt i (by rw [e]; rfl)), a3, fun j c d hc hd => ⟨(a4 j c d hc hd).1.ext ext, (a4 j c d hc hd).2⟩⟩
  · obtain ⟨⟨cs, T, a1⟩, a2⟩ := hi.front i n k e hn
    exact ⟨⟨cs, T, by rw [← a1]; exact row _ (hi.lt i (by rw [e]; simp [O.has, hn]))⟩, a2⟩
  · obtain ⟨a0, a⟩ := hi.vec i b k ds e
    refine ⟨a0, fun hb => ?_⟩
    obtain ⟨a1, cs, T, a2, a3, a4⟩ := a hb
    exact ⟨a1, cs, T, by rw [← a2]; exact row _ (hi.lt i (by rw [e]; exact hb)), a3, fun j c d hc hd => ⟨(a4 j c d hc hd).1.ext ext, (a4 j c d hc hd).2⟩⟩
  · obtain ⟨a1, es, ck, a2, a3, a4⟩ := hi.smap i l e
    exact ⟨a1, es, ck, by rw [← a2]; exact row _ (hi.lt i (by rw [e]; rfl)), a3, fun j e p a b => ⟨(a4 j e p a b).1, (a4 j e p a b).2.mono ext.pub⟩⟩

theorem Plain.callL {P : Program} {fn : FuncId} {ds args : List D} {d : D} {h0 : Hp} {L : List Nat} (h : Plain P fn args d) (ha : Lents h0 L ds args) (hd : d.sc = true) (f : Nat) : CallE P fn ds (L.map fun i => (i, h0 i)) f { d := some d, tc := L } := by
  intro w G hh h' vs hi hpre _ he hs hr
  have e' : h' = hh := by
    funext i
    rw [he i]
    simp only [List.length_nil, Nat.add_zero, List.find?_nil]
    rw [if_neg (by omega)]
  subst e'
  refine (h w (allPub w G) vs allPub_inv (by rw [hs, ha.len]) fun j v x hv hx => ?_).mono fun e w' ⟨v, d', l', G1, q1, q2, q3, q4, q5⟩ => ?_
  · obtain ⟨d0, h1, h2⟩ := ha.get hx
    exact lent_rv hi (fun i hL => hpre i _ (List.mem_map.2 ⟨i, hL, rfl⟩)) h2 (hr j v d0 hv h1)
  · obtain ⟨G2, r1, r2, r3⟩ := q2 w' G1 v q4 q3
    obtain ⟨i1, x1⟩ := frame_look hi (r3 _ _ q5)
    exact ⟨v, d, G, q1, rfl, r1.sc hd, i1, x1⟩

/-- A call that only looks at what is still written: its result leads nowhere. -/
theorem callK_look {A : Ar} (hA : A.Ok) {P Q : Program} (e : P = Q) {hp : Hp} {f : Nat} {gd g : Bool} {fn : FuncId} {ds args : List D} {d : D} {o : Prop} {K : Prop → Eff → Prop} (L : List Nat)
    (ha : Lents hp L ds args) (hd : d.sc = true) (hk : K o { d := some (if gd then .when g d else d), tc := L }) (h : g = true → o → Plain Q fn args d) : A.call P hp f gd g fn ds o K :=
  hA.call _ _ _ _ _ _ _ _ _ ⟨ds, L.map fun i => (i, hp i), { d := some d, tc := L }, Wks.refl _, (fun hg ho => e ▸ (h hg ho).callL ha hd f), (fun i o hm => by
    obtain ⟨i', _, e⟩ := List.mem_map.1 hm
    cases e; rfl), fun _ => ⟨rfl, rfl⟩, fun _ h => (List.not_mem_nil h).elim, by simp [Function.comp_def], d, rfl, hk⟩
end Go.Proofs.Ytmnhoglkahmlaaa.Ab
