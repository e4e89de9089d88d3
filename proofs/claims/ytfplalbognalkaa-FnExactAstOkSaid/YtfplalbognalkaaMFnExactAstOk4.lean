/- What is written in place is handed on: lent to a call that only looks, or published. -/
import Derived.Test.YtfplalbognalkaaMFnExactAstOk3
set_option linter.unusedSimpArgs false
set_option linter.unusedVariables false
set_option linter.unnecessarySimpa false
set_option linter.constructorNameAsVariable false
namespace Go.Proofs.Ytfplalbognalkaa.Ab
open Go
/-- What is handed back is taken for less, twice. -/
theorem FinV.trans {l0 l1 l2 l3 : List O} {d1 d2 d3 : D} (a : FinV l0 l1 d1 l2 d2) (b : FinV l0 l2 d2 l3 d3) : FinV l0 l1 d1 l3 d3 := by
  intro w G v hi hr
  obtain ⟨G1, r1, i1, e1⟩ := a w G v hi hr
  obtain ⟨G2, r2, i2, e2⟩ := b w G1 v i1 r1
  exact ⟨G2, r2, i2, fun w0 G0 e => e2 _ _ (e1 _ _ e)⟩
/-- A slice that is written in place is published. -/
theorem take_get {ds : List D} {m : Nat} {xs : List E} (h : ds.take m = xs.map .e) {j : Nat} {d : E} (hd : xs[j]? = some d) (hj : j < m) : ds[j]? = some (.e d) := by
  have := congrArg (·[j]?) h
  simp only [List.getElem?_take, if_pos hj, List.getElem?_map, hd] at this
  exact this
theorem vec_pub {w : World} {G : Gh} {h h' : Hp} {i k : Nat} {b : Bool} {ds : List D} {es : List (List E)} (hi : Inv w G h) (hb : h i = .vec b k ds) (hds : ds.take (es.length * k) = es.flatten.map .e) (hk : ∀ e ∈ es, e.length = k) (h1 : h' i = .gone) (h2 : ∀ j, j ≠ i → h' j = h j) :
    ∃ G', Inv w G' h' ∧ Ext w G h w G' h' ∧ ∀ v, Rv w G h v (.vec i es.length k) → Rv w G' h' v (.e (.sl es)) := by
  have hlt : b = true → G.blk i < w.heap.size := fun e => hi.lt i (by rw [hb]; exact e)
  have hfl : es.flatten.length = es.length * k := flatten_len hk
  have hap : ∀ j, j ≠ i → (h j).has = true → b = true → G.blk j ≠ G.blk i := fun j hj hh hbt e => hj (hi.inj _ _ hh (by rw [hb]; exact hbt) e)
  have x : Ext w G h w ⟨fun x o => G.pub x o ∨ (b = true ∧ x = G.blk i ∧ o < es.length * k), G.blk⟩ h' := {
    os := rfl
    tape := rfl
    output := rfl
    size := Nat.le_refl _
    pub := fun _ _ p => ⟨.inl p, rfl⟩
    box := fun j ds e => by
      have : j ≠ i := fun q => by rw [q, hb] at e; cases e
      exact ⟨⟨ds, by rw [h2 j this, e], rfl⟩, rfl⟩
    tok := fun j n k e => by
      have : j ≠ i := fun q => by rw [q, hb] at e; cases e
      exact ⟨n, by rw [h2 j this, e], Nat.le_refl _, fun _ _ => ⟨rfl, rfl⟩⟩
    others := fun _ _ _ => rfl
    new := fun j hj => by
      have : j ≠ i := fun q => by rw [q, h1] at hj; cases hj
      rw [h2 j this] at hj
      exact .inl ⟨j, hj, rfl⟩
    pubnew := fun x o p => by
      rcases p with p | ⟨hbt, rfl, _⟩
      · exact .inl p
      · exact .inr (.inr ⟨i, by rw [hb]; exact hbt, rfl⟩)
    vec := fun j b k ds e => by
      by_cases q : j = i
      · subst q; exact .inl h1
      · exact .inr ⟨ds, by rw [h2 j q, e], Nat.le_refl _, fun _ => ⟨rfl, rfl⟩⟩
    gone := fun j e => by
      have : j ≠ i := fun q => by rw [q, hb] at e; cases e
      rw [h2 j this, e]
    smap := fun j l e => by
      have : j ≠ i := fun q => by rw [q, hb] at e; cases e
      exact ⟨⟨l, by rw [h2 j this, e]⟩, rfl⟩ }
  refine ⟨_, ⟨fun j hj => ?_, fun j j' hj hj' e => ?_, fun x o p => ?_, fun j ds e => ?_, fun j n k' e hn => ?_, fun j b' k' ds e => ?_, fun j l e => ?_⟩, x, fun v hv => ?_⟩
  · have : j ≠ i := fun q => by rw [q, h1] at hj; cases hj
    rw [h2 j this] at hj
    exact hi.lt j hj
  · have q : j ≠ i := fun q => by rw [q, h1] at hj; cases hj
    have q' : j' ≠ i := fun q => by rw [q, h1] at hj'; cases hj'
    rw [h2 j q] at hj
    rw [h2 j' q'] at hj'
    exact hi.inj _ _ hj hj' e
  · rcases p with p | ⟨hbt, rfl, _⟩
    · exact hi.publt _ _ p
    · exact hlt hbt
  · have q : j ≠ i := fun q => by rw [q, h1] at e; cases e
    rw [h2 j q] at e
    obtain ⟨a1, cs, T, a2, a3, a4⟩ := hi.box j ds e
    refine ⟨fun o p => ?_, cs, T, a2, a3, fun m c d hc hd => ⟨(a4 m c d hc hd).1.ext x, (a4 m c d hc hd).2⟩⟩
    rcases p with p | ⟨hbt, p, _⟩
    · exact a1 o p
    · exact hap j q (by rw [e]; rfl) hbt p
  · have q : j ≠ i := fun q => by rw [q, h1] at e; cases e
    rw [h2 j q] at e
    obtain ⟨a1, a2⟩ := hi.front j n k' e hn
    refine ⟨a1, fun o ho p => ?_⟩
    rcases p with p | ⟨hbt, p, _⟩
    · exact a2 o ho p
    · exact hap j q (by rw [e]; simp [O.has, hn]) hbt p
  · have q : j ≠ i := fun q => by rw [q, h1] at e; cases e
    rw [h2 j q] at e
    obtain ⟨a0, a⟩ := hi.vec j b' k' ds e
    refine ⟨a0, fun hb' => ?_⟩
    obtain ⟨a1, cs, T, a2, a3, a4⟩ := a hb'
    refine ⟨fun o p => ?_, cs, T, a2, a3, fun m c d hc hd => ⟨(a4 m c d hc hd).1.ext x, (a4 m c d hc hd).2⟩⟩
    rcases p with p | ⟨hbt, p, _⟩
    · exact a1 o p
    · exact hap j q (by rw [e]; exact hb') hbt p
  · have q : j ≠ i := fun q => by rw [q, h1] at e; cases e
    rw [h2 j q] at e
    obtain ⟨a1, es', ck, a2, a3, a4⟩ := hi.smap j l e
    refine ⟨fun o p => ?_, es', ck, a2, a3, fun m e p a b => ⟨(a4 m e p a b).1, (a4 m e p a b).2.mono x.pub⟩⟩
    rcases p with p | ⟨hbt, p, _⟩
    · exact a1 o p
    · exact hap j q (by rw [e]; rfl) hbt p
  · obtain ⟨a, cap, rfl, _, hm, hnc, hvo⟩ := rv_vec hv
    obtain ⟨_, hlen, hf, ht⟩ := hvo _ _ _ hb
    refine .e ?_
    cases b with
    | false =>
      obtain ⟨h0, rfl, hsp⟩ := hf rfl
      have : es = [] := List.length_eq_zero_iff.1 h0
      subst this
      exact .nils fun _ => rfl
    | true =>
      obtain ⟨rfl, _⟩ := ht rfl
      obtain ⟨uu, hu1, hu2⟩ := vec_cells hi hb
      have hlen : es.length * k ≤ ds.length := by have := congrArg List.length hds; rw [List.length_take, List.length_map, hfl] at this; omega
      refine .sl (k := k) uu rfl hnc hm hk (fun j hj => ?_) (fun j d hd => ?_)
      · rw [Nat.zero_add]
        exact ⟨.inr ⟨rfl, rfl, hj⟩, hu1 j (by omega)⟩
      · have hj : j < es.length * k := by rw [← hfl]; exact (List.getElem?_eq_some_iff.1 hd).1
        have := (hu2 j (.e d) (take_get hds hd hj)).1
        exact (rv_e this).mono x.pub
theorem hpF_set {l : List O} {i : Nat} {o : O} (hi : i < l.length) : hpF (l.set i o) i = o ∧ ∀ j, j ≠ i → hpF (l.set i o) j = hpF l j := by
  refine ⟨by simp [hpF, List.getD, hi], fun j hj => ?_⟩
  simp [hpF, List.getD, List.getElem?_set_ne (Ne.symm hj)]
theorem hp_lt {l : List O} {i : Nat} (h : hpF l i ≠ .dead) : i < l.length := by
  rcases Nat.lt_or_ge i l.length with q | q
  · exact q
  · exact absurd (hpF_ge q) h
/-- A slot's slice, published, in the state. -/
theorem Weak.pub {h0 : Hp} {env : List (Nat × D)} {hp : List O} (t i n k : Nat) {b : Bool} {ds : List D} {es : List (List E)} (ht : look t env = some (.vec i n k)) (hb : hpF hp i = .vec b k ds) (hn : es.length = n) (hds : ds.take (n * k) = es.flatten.map .e) (hk : ∀ e ∈ es, e.length = k) :
    Weak h0 ⟨env, hp⟩ ⟨(t, .e (.sl es)) :: env, hp.set i .gone⟩ := by
  intro w G hi
  have hlt : i < hp.length := hp_lt (by rw [hb]; simp)
  obtain ⟨a1, a2⟩ := hpF_set (o := .gone) hlt
  obtain ⟨G', i1, x1, r1⟩ := vec_pub hi hb (by rw [hn]; exact hds) hk a1 a2
  refine ⟨G', i1, fun w0 G0 e => e.trans x1, fun t' d' hl => ?_⟩
  simp only [look] at hl
  split at hl
  · rename_i e
    subst e
    cases hl
    exact ⟨_, ht, fun v r => r1 v (by rw [hn]; exact r)⟩
  · exact ⟨d', hl, fun v r => r.ext x1⟩
/-- What is handed back, published. -/
theorem FinV.pub {l0 l : List O} {i n k : Nat} {b : Bool} {ds : List D} {es : List (List E)} (hb : hpF l i = .vec b k ds) (hn : es.length = n) (hds : ds.take (n * k) = es.flatten.map .e) (hk : ∀ e ∈ es, e.length = k) : FinV l0 l (.vec i n k) (l.set i .gone) (.e (.sl es)) := by
  intro w G v hi hr
  obtain ⟨a1, a2⟩ := hpF_set (o := .gone) (hp_lt (by rw [hb]; simp))
  obtain ⟨G', i1, x1, r1⟩ := vec_pub hi hb (by rw [hn]; exact hds) hk a1 a2
  exact ⟨G', r1 v (by rw [hn]; exact hr), i1, fun w0 G0 e => e.trans x1⟩
/-- The same, of a function that has been handed nothing that is still written. -/
theorem fin_vec {l : List O} {i n k : Nat} {b : Bool} {ds : List D} {es : List (List E)} (hb : hpF l i = .vec b k ds) (hn : es.length = n) (hds : ds.take (n * k) = es.flatten.map .e) (hk : ∀ e ∈ es, e.length = k) : FinW l (.vec i n k) (.e (.sl es)) := by
  intro w G v hi hr
  obtain ⟨G1, r1, i1, e1⟩ := FinV.pub (l0 := []) hb hn hds hk w G v hi hr
  obtain ⟨G2, r2, i2, e2⟩ := fin_pl (l := l.set i .gone) (d' := .e (.sl es)) (d := .e (.sl es)) rfl rfl w G1 v i1 r1
  exact ⟨G2, r2, i2, fun w0 G0 e => e2 _ _ (e1 _ _ e)⟩
theorem Ar.Ok.fin_vec {A : Ar} (h : A.Ok) {l : List O} {i n k : Nat} {b : Bool} {ds : List D} {es : List (List E)} (hb : hpF l i = .vec b k ds) (hn : es.length = n) (hds : ds.take (n * k) = es.flatten.map .e) (hk : ∀ e ∈ es, e.length = k) : A.fin l (.vec i n k) (.e (.sl es)) :=
  h.fin _ _ _ fun _ => Ab.fin_vec hb hn hds hk
/-! ### Lent to a call -/
mutual
/-- Nothing in it leads into memory. -/
def D.sc : D → Bool
  | .e (.v _) => true
  | .agg ds => scs ds
  | .tup ds => scs ds
  | _ => false
def scs : List D → Bool
  | [] => true
  | d :: r => d.sc && scs r
end
theorem scs_get : ∀ {ds : List D} {j : Nat} {d : D}, scs ds = true → ds[j]? = some d → d.sc = true
  | [], j, d, _, hd => by simp at hd
  | x :: r, 0, d, h, hd => by
    simp only [scs, Bool.and_eq_true] at h
    simp at hd; subst hd; exact h.1
  | x :: r, j + 1, d, h, hd => by
    simp only [scs, Bool.and_eq_true] at h
    exact scs_get h.2 (by simpa using hd)
theorem Rv.sc {w : World} {G : Gh} {h : Hp} {v : Value} {d : D} (r : Rv w G h v d) {w' : World} {G' : Gh} {h' : Hp} (hs : d.sc = true) : Rv w' G' h' v d := by
  induction r with
  | @e x d h =>
    cases d with
    | v y => cases h with | v h => exact .e (.v h)
    | _ => simp [D.sc] at hs
  | agg hl h1 _ ih => exact .agg hl h1 fun j c d hc hd => ih j c d hc hd (scs_get (by simpa [D.sc] using hs) hd)
  | tup hl _ ih => exact .tup hl fun j c d hc hd => ih j c d hc hd (scs_get (by simpa [D.sc] using hs) hd)
  | _ => simp [D.sc] at hs
/-- What an argument is for a call that only looks. -/
def Lent (h : Hp) (L : List Nat) (d a : D) : Prop :=
  (a = d ∧ d.free = true) ∨ (a = d.pl ∧ d.pl.free = true) ∨
  (∃ i n k b ds es, d = .vec i n k ∧ i ∈ L ∧ h i = .vec b k ds ∧ a = .e (.sl es) ∧ ds.take (n * k) = es.flatten.map .e ∧ es.length = n ∧ ∀ e ∈ es, e.length = k) ∨
  (∃ i n k ds es, d = .bs i 0 n k ∧ i ∈ L ∧ h i = .box ds ∧ a = .e (.sl es) ∧ ds.take (n * k) = es.flatten.map .e ∧ es.length = n ∧ ∀ e ∈ es, e.length = k)
def Lents (h : Hp) (L : List Nat) : List D → List D → Prop
  | [], [] => True
  | d :: r, a :: s => Lent h L d a ∧ Lents h L r s
  | _, _ => False
theorem Lents.len {h : Hp} {L : List Nat} : ∀ {ds az : List D}, Lents h L ds az → az.length = ds.length
  | [], [], _ => rfl
  | _ :: _, _ :: _, x => by simp [Lents.len x.2]
  | [], _ :: _, x => x.elim
  | _ :: _, [], x => x.elim
theorem Lents.get {h : Hp} {L : List Nat} : ∀ {ds az : List D} {j : Nat} {a : D}, Lents h L ds az → az[j]? = some a → ∃ d, ds[j]? = some d ∧ Lent h L d a
  | [], [], j, _, _, e => by simp at e
  | d :: _, _ :: _, 0, _, x, e => by simp at e; subst e; exact ⟨d, by simp, x.1⟩
  | _ :: _, _ :: _, j + 1, _, x, e => by obtain ⟨d, h1, h2⟩ := Lents.get x.2 (by simpa using e); exact ⟨d, by simpa using h1, h2⟩
  | [], _ :: _, _, _, x, _ => x.elim
  | _ :: _, [], _, _, x, _ => x.elim
/-- All of memory, looked at. -/
def allPub (w : World) (G : Gh) : Gh := ⟨fun b _ => b < w.heap.size, G.blk⟩
theorem allPub_inv {w : World} {G : Gh} : Inv w (allPub w G) (hpF []) := by
  rw [hpF_nil]
  exact ⟨fun i h => by simp [O.has] at h, fun i j h => by simp [O.has] at h, fun _ _ p => p, fun i ds e => by simp at e, fun i n k e => by simp at e, fun i b k ds e => by simp at e, fun i l e => by simp at e⟩
theorem Rv.freeMono {w : World} {G : Gh} {h : Hp} {v : Value} {d : D} (r : Rv w G h v d) {G' : Gh} {h' : Hp} (hf : d.free = true) (hp : ∀ b o, G.pub b o → G'.pub b o) : Rv w G' h' v d := by
  induction r with
  | e h => exact .e (h.mono fun b o p => ⟨hp b o p, rfl⟩)
  | agg hl h1 _ ih => exact .agg hl h1 fun j c d hc hd => ih j c d hc hd (frees_get (by simpa [D.free] using hf) hd)
  | own _ _ _ => simp [D.free] at hf
  | zs ha => exact .zs ha
  | bs _ _ _ _ => simp [D.free] at hf
  | rp u hu hr => exact .rp u (fun j hj => ⟨hp _ _ (hu j hj).1, (hu j hj).2⟩) fun j d hd => (hr j d hd).mono fun b o p => ⟨hp b o p, rfl⟩
  | ref _ => simp [D.free] at hf
  | refs _ => simp [D.free] at hf
  | tup hl _ ih => exact .tup hl fun j c d hc hd => ih j c d hc hd (frees_get (by simpa [D.free] using hf) hd)
  | when _ hu ih => exact .when (fun e => ih e (by simpa [D.free] using hf)) hu
  | fn hl _ hl' _ ih ih' =>
    simp only [D.free, Bool.and_eq_true] at hf
    exact .fn hl (fun j c d hc hd => ih j c d hc hd (frees_get hf.1 hd)) hl' fun j c d hc hd => ih' j c d hc hd (frees_get hf.2 hd)
  | vec _ _ _ _ => simp [D.free] at hf
  | vref _ _ => simp [D.free] at hf
  | mp _ => simp [D.free] at hf
  | any => exact .any
theorem lent_rv {w : World} {G : Gh} {h h' : Hp} {L : List Nat} (hi : Inv w G h') (he : ∀ i ∈ L, h' i = h i) {d a : D} (x : Lent h L d a) {v : Value} (r : Rv w G h' v d) : Rv w (allPub w G) (hpF []) v a := by
  have cell_lt : ∀ {b o : Nat} {u : Value}, w.cell? ⟨b, o, none⟩ = some u → b < w.heap.size := fun {b o u} e => by
    simp only [World.cell?] at e
    split at e
    · rename_i hb
      exact (Array.getElem?_eq_some_iff.1 hb).1
    · cases e
  rcases x with ⟨rfl, hf⟩ | ⟨rfl, hf⟩ | ⟨i, n, k, b, ds, es, rfl, hL, hb, rfl, h1, h2, h3⟩ | ⟨i, n, k, ds, es, rfl, hL, hb, rfl, h1, h2, h3⟩
  · exact r.freeMono hf hi.publt
  · exact r.pl.freeMono hf hi.publt
  · rw [← he i hL] at hb
    have hfl : es.flatten.length = n * k := by rw [flatten_len h3, h2]
    obtain ⟨a, cap, rfl, _, hm, hnc, hvo⟩ := rv_vec r
    obtain ⟨_, hlen, hff, ht⟩ := hvo _ _ _ hb
    refine .e ?_
    cases b with
    | false =>
      obtain ⟨rfl, rfl, _⟩ := hff rfl
      have : es = [] := List.length_eq_zero_iff.1 h2
      subst this
      exact .nils fun _ => rfl
    | true =>
      obtain ⟨rfl, _⟩ := ht rfl
      obtain ⟨uu, hu1, hu2⟩ := vec_cells hi hb
      refine .sl uu h2 hnc hm h3 (fun j hj => ?_) (fun j d hd => ?_)
      · rw [Nat.zero_add]
        have := hu1 j (by omega)
        exact ⟨cell_lt this, this⟩
      · have hj : j < n * k := by rw [← hfl]; exact (List.getElem?_eq_some_iff.1 hd).1
        exact (rv_e (hu2 j (.e d) (take_get h1 hd hj)).1).mono fun b o p => ⟨hi.publt b o p, rfl⟩
  · rw [← he i hL] at hb
    have hfl : es.flatten.length = n * k := by rw [flatten_len h3, h2]
    refine .e ?_
    cases r with
    | bs hb' hcap hl hm =>
      rename_i cap ds' b o
      rw [hb] at hb'
      cases hb'
      rcases hl with rfl | ⟨rfl, rfl, hsz⟩
      · have : es = [] := List.length_eq_zero_iff.1 h2
        subst this
        exact .sl (k := k) (fun _ => undef) rfl hcap hm h3 (fun j hj => by simp at hj) (fun j d hd => by simp at hd)
      · obtain ⟨uu, hu1, hu2⟩ := box_cells hi hb
        have hle : n * k ≤ cap * k := Nat.mul_le_mul_right k hcap
        refine .sl uu h2 hcap hm h3 (fun j hj => ?_) (fun j d hd => ?_)
        · rw [Nat.zero_add]
          have := hu1 j (by omega)
          exact ⟨cell_lt this, this⟩
        · have hj : j < n * k := by rw [← hfl]; exact (List.getElem?_eq_some_iff.1 hd).1
          exact (rv_e (hu2 j (.e d) (take_get h1 hd hj)).1).mono fun b o p => ⟨hi.publt b o p, rfl⟩
/-- Behind a call that only looked: memory is as it was. -/
theorem frame_look {w w' : World} {G G1 : Gh} {h h1 : Hp} (hi : Inv w G h) (he : Ext w (allPub w G) (hpF []) w' G1 h1) : Inv w' G h ∧ Ext w G h w' G h := by
  rw [hpF_nil] at he
  have row : ∀ b, b < w.heap.size → w'.heap[b]? = w.heap[b]? := fun b hb => he.others b hb fun j hj => by simp [O.has] at hj
  have ext : Ext w G h w' G h := {
    os := he.os
    tape := he.tape
    output := he.output
    size := he.size
    pub := fun b o p => ⟨p, by simp only [World.cell?]; rw [row b (hi.publt b o p)]⟩
    box := fun i ds e => ⟨⟨ds, e, rfl⟩, rfl⟩
    tok := fun i n k e => ⟨n, e, Nat.le_refl _, fun _ hn => ⟨rfl, by simp only [World.shape?]; rw [row _ (hi.lt i (by rw [e]; simp [O.has, hn]))]⟩⟩
    others := fun b hb _ => row b hb
    new := fun i hi => .inl ⟨i, hi, rfl⟩
    vec := fun i b k ds e => .inr ⟨ds, e, Nat.le_refl _, fun hb => ⟨rfl, by simp only [World.shape?]; rw [row _ (hi.lt i (by rw [e]; exact hb))]⟩⟩
    gone := fun _ e => e
    smap := fun _ l e => ⟨⟨l, e⟩, rfl⟩
    pubnew := fun b o p => .inl p }
  refine ⟨⟨fun i hh => Nat.lt_of_lt_of_le (hi.lt i hh) he.size, hi.inj, fun b o p => Nat.lt_of_lt_of_le (hi.publt b o p) he.size, fun i ds e => ?_, fun i n k e hn => ?_, fun i b k ds e => ?_, fun i l e => ?_⟩, ext⟩
  · obtain ⟨a1, cs, T, a2, a3, a4⟩ := hi.box i ds e
    exact ⟨a1, cs, T, by rw [← a2]; exact row _ (hi.lt i (by rw [e]; rfl)), a3, fun j c d hc hd => ⟨(a4 j c d hc hd).1.ext ext, (a4 j c d hc hd).2⟩⟩
  · obtain ⟨⟨cs, T, a1⟩, a2⟩ := hi.front i n k e hn
    exact ⟨⟨cs, T, by rw [← a1]; exact row _ (hi.lt i (by rw [e]; simp [O.has, hn]))⟩, a2⟩
  · obtain ⟨a0, a⟩ := hi.vec i b k ds e
    refine ⟨a0, fun hb => ?_⟩
    obtain ⟨a1, cs, T, a2, a3, a4⟩ := a hb
    exact ⟨a1, cs, T, by rw [← a2]; exact row _ (hi.lt i (by rw [e]; exact hb)), a3, fun j c d hc hd => ⟨(a4 j c d hc hd).1.ext ext, (a4 j c d hc hd).2⟩⟩
  · obtain ⟨a1, es, ck, a2, a3, a4⟩ := hi.smap i l e
    exact ⟨a1, es, ck, by rw [← a2]; exact row _ (hi.lt i (by rw [e]; rfl)), a3, fun j e p a b => ⟨(a4 j e p a b).1, (a4 j e p a b).2.mono ext.pub⟩⟩
theorem Plain.callL {P : Program} {fn : FuncId} {ds args : List D} {d : D} {h0 : Hp} {L : List Nat} (h : Plain P fn args d) (ha : Lents h0 L ds args) (hd : d.sc = true) (f : Nat) : CallE P fn ds (L.map fun i => (i, h0 i)) f { d := some d, tc := L } := by
  intro w G hh h' vs hi hpre _ he hs hr
  have e' : h' = hh := by
    funext i
    rw [he i]
    simp only [List.length_nil, Nat.add_zero, List.find?_nil]
    rw [if_neg (by omega)]
  subst e'
  refine (h w (allPub w G) vs allPub_inv (by rw [hs, ha.len]) fun j v x hv hx => ?_).mono fun e w' ⟨v, d', l', G1, q1, q2, q3, q4, q5⟩ => ?_
  · obtain ⟨d0, h1, h2⟩ := ha.get hx
    exact lent_rv hi (fun i hL => hpre i _ (List.mem_map.2 ⟨i, hL, rfl⟩)) h2 (hr j v d0 hv h1)
  · obtain ⟨G2, r1, r2, r3⟩ := q2 w' G1 v q4 q3
    obtain ⟨i1, x1⟩ := frame_look hi (r3 _ _ q5)
    exact ⟨v, d, G, q1, rfl, r1.sc hd, i1, x1⟩
/-- A call that only looks at what is still written: its result leads nowhere. -/
theorem callK_look {A : Ar} (hA : A.Ok) {P Q : Program} (e : P = Q) {hp : Hp} {f : Nat} {gd g : Bool} {fn : FuncId} {ds args : List D} {d : D} {o : Prop} {K : Prop → Eff → Prop} (L : List Nat)
    (ha : Lents hp L ds args) (hd : d.sc = true) (hk : K o { d := some (if gd then .when g d else d), tc := L }) (h : g = true → o → Plain Q fn args d) : A.call P hp f gd g fn ds o K :=
  hA.call _ _ _ _ _ _ _ _ _ ⟨ds, L.map fun i => (i, hp i), { d := some d, tc := L }, Wks.refl _, (fun hg ho => e ▸ (h hg ho).callL ha hd f), (fun i o hm => by
    obtain ⟨i', _, e⟩ := List.mem_map.1 hm
    cases e; rfl), fun _ => ⟨rfl, rfl⟩, fun _ h => (List.not_mem_nil h).elim, by simp [Function.comp_def], d, rfl, hk⟩
end Go.Proofs.Ytfplalbognalkaa.Ab
/- Calls that leave what they are handed as it was. -/
namespace Go.Proofs.Ytfplalbognalkaa.Ab
open Go
theorem Proc.callRO {P : Program} {fn : FuncId} {args : RF → List D} {l0 : RF → List O} {d : RF → D} (h : Proc P fn args l0 d l0) {L : List Nat} {f : Nat} (hL : L.length = (l0 id).length) (hn : ndB L = true) (hf : ∀ i ∈ L, i < f) :
    CallE P fn (args (num L f)) (L.zip (l0 (num L f))) f { d := some (d (num L f)), tc := L } := by
  intro w G hh h' vs hi hpre hal hh' hs hr
  have e' : h' = hh := by
    funext i
    rw [hh' i]
    simp only [List.length_nil, Nat.add_zero, List.find?_nil]
    rw [if_neg (by omega)]
  subst e'
  have ll : (l0 (num L f)).length = L.length := by rw [h.side.r0, List.length_map, hL]
  have hd : (l0 (num L f)).drop L.length = [] := List.drop_eq_nil_of_le (by omega)
  have ht : (l0 (num L f)).take L.length = l0 (num L f) := List.take_of_length_le (by omega)
  refine (h.callE hL hn hf) w G h' h' vs hi hpre (fun j hj => ?_) (fun i => ?_) hs hr
  · simp only [hd, List.length_nil] at hj
    omega
  · simp only [hd, ht, List.length_nil, Nat.add_zero]
    rw [if_neg (by omega)]
    cases hf2 : (L.zip (l0 (num L f))).find? (·.1 == i) with
    | none => rfl
    | some x =>
      have h1 := List.mem_of_find?_eq_some hf2
      have h2 := List.find?_some hf2
      simp only [beq_iff_eq] at h2
      rw [← h2]
      exact hpre x.1 x.2 h1
theorem callK_ro {A : Ar} (hA : A.Ok) {P Q : Program} (e : P = Q) {hp : Hp} {f : Nat} {gd g : Bool} {fn : FuncId} {ds : List D} {o : Prop} {K : Prop → Eff → Prop} {args : RF → List D} {l0 : RF → List O} {d : RF → D} (L : List Nat)
    (hn : (ndB L && L.all (· < f)) = true) (hpre : hpAll hp L (l0 (num L f))) (hw : Wks ds (args (num L f)))
    (hk : K o { d := some (if gd then .when g (d (num L f)) else d (num L f)), tc := L })
    (h : g = true → o → Proc Q fn args l0 d l0) (hs : Side args l0 d l0) : A.call P hp f gd g fn ds o K := by
  have hL : L.length = (l0 id).length := by rw [hpAll_len hpre, hs.r0, List.length_map]
  simp only [Bool.and_eq_true, List.all_eq_true, decide_eq_true_eq] at hn
  refine hA.call _ _ _ _ _ _ _ _ _ ⟨args (num L f), L.zip (l0 (num L f)), _, hw, fun hg ho => e ▸ (h hg ho).callRO hL hn.1 hn.2, hpAll_mem hpre, fun _ => ⟨rfl, rfl⟩, fun x hx => (List.not_mem_nil hx).elim, ?_, d (num L f), rfl, by simpa using hk⟩
  rw [List.map_fst_zip]
  rw [← hpAll_len hpre]; exact Nat.le_refl _
end Go.Proofs.Ytfplalbognalkaa.Ab
/- Kinds of nodes, and of their kids. -/
namespace Go.Proofs.Ytfplalbognalkaa.Ab
open Go
theorem bl_sc {k : Int} {r : Bool} (hr : r = isSc k) : r = (decide (1 ≤ k) && decide (k ≤ 4)) := by rw [hr, isSc]; by_cases a : 1 ≤ k <;> by_cases b : k ≤ 4 <;> simp [a, b]
theorem bl_qu {k : Int} {r : Bool} (hr : r = isQu k) : r = (decide (k = 6) || decide (k = 7)) := by rw [hr, isQu]; by_cases a : k = 6 <;> by_cases b : k = 7 <;> simp [a, b]
theorem bl_co {k : Int} {r : Bool} (hr : r = isCo k) : r = (decide (8 ≤ k) && decide (k ≤ 15)) := by rw [hr, isCo]; by_cases a : 8 ≤ k <;> by_cases b : k ≤ 15 <;> simp [a, b]
theorem ok162 (k : Int) : Plain Try.prog 162 [.int k] (.bool (isSc k)) := okOf mixed p162 fun A P hA hP => (by
  obtain ⟨r, hr⟩ : ∃ r, r = isSc k := ⟨_, rfl⟩
  rw [← hr]
  have hr2 := bl_sc hr
  clear hr
  cbv
  repeat' first | with_reducible rfl | with_reducible refine And.intro ?_ ?_ | ((with_reducible intro hcc); first | (cases hcc; done) | skip) | ((with_reducible show goC _ _ _ _ _ _ _ _); cbv) | ((with_reducible show goOps _ _ _ _ _); cbv) | ((with_reducible show okWr _ _ = _); rfl) | ((with_reducible refine hA.fin_pl _ _ _ ?_); cbv) | ((with_reducible refine hA.gb0 true _ ?_); cbv) | ((with_reducible refine hA.gb0 false _ ?_); cbv) | ((with_reducible refine hA.gb _ _ fun vb hvb => ?_); cbv) | (simp only [hA.natLit, hA.natOf, hA.natCast]; cbv)
  all_goals try simp only [hA.add, hA.sub, hA.mul, hA.neg, hA.div, hA.mod, hA.mn, hA.mx, hA.eq, hA.lt, hA.le, hA.nat, hA.R, hA.lep, hA.ltp, hA.seq, inR, n_cast, Int.ofNat_eq_natCast, Option.getD_some, Option.getD_none] at *
  all_goals (subst hr2; grind))
theorem ok123 (k : Int) : Plain Try.prog 123 [.int k] (.bool (isSc k)) := okOf mixed p123 fun A P hA hP => (by
  obtain ⟨r, hr⟩ : ∃ r, r = isSc k := ⟨_, rfl⟩
  rw [← hr]
  have hr2 := bl_sc hr
  clear hr
  cbv
  repeat' first | with_reducible rfl | with_reducible refine And.intro ?_ ?_ | ((with_reducible intro hcc); first | (cases hcc; done) | skip) | ((with_reducible show goC _ _ _ _ _ _ _ _); cbv) | ((with_reducible show goOps _ _ _ _ _); cbv) | ((with_reducible show okWr _ _ = _); rfl) | ((with_reducible refine hA.fin_pl _ _ _ ?_); cbv) | ((with_reducible refine hA.gb0 true _ ?_); cbv) | ((with_reducible refine hA.gb0 false _ ?_); cbv) | ((with_reducible refine hA.gb _ _ fun vb hvb => ?_); cbv) | (simp only [hA.natLit, hA.natOf, hA.natCast]; cbv)
  all_goals try simp only [hA.add, hA.sub, hA.mul, hA.neg, hA.div, hA.mod, hA.mn, hA.mx, hA.eq, hA.lt, hA.le, hA.nat, hA.R, hA.lep, hA.ltp, hA.seq, inR, n_cast, Int.ofNat_eq_natCast, Option.getD_some, Option.getD_none] at *
  all_goals (subst hr2; grind))
theorem ok66 (k : Int) : Plain Try.prog 66 [.int k] (.bool (isQu k)) := okOf mixed p66 fun A P hA hP => (by
  obtain ⟨r, hr⟩ : ∃ r, r = isQu k := ⟨_, rfl⟩
  rw [← hr]
  have hr2 := bl_qu hr
  clear hr
  cbv
  repeat' first | with_reducible rfl | with_reducible refine And.intro ?_ ?_ | ((with_reducible intro hcc); first | (cases hcc; done) | skip) | ((with_reducible show goC _ _ _ _ _ _ _ _); cbv) | ((with_reducible show goOps _ _ _ _ _); cbv) | ((with_reducible show okWr _ _ = _); rfl) | ((with_reducible refine hA.fin_pl _ _ _ ?_); cbv) | ((with_reducible refine hA.gb0 true _ ?_); cbv) | ((with_reducible refine hA.gb0 false _ ?_); cbv) | ((with_reducible refine hA.gb _ _ fun vb hvb => ?_); cbv) | (simp only [hA.natLit, hA.natOf, hA.natCast]; cbv)
  all_goals try simp only [hA.add, hA.sub, hA.mul, hA.neg, hA.div, hA.mod, hA.mn, hA.mx, hA.eq, hA.lt, hA.le, hA.nat, hA.R, hA.lep, hA.ltp, hA.seq, inR, n_cast, Int.ofNat_eq_natCast, Option.getD_some, Option.getD_none] at *
  all_goals (subst hr2; grind))
theorem ok69 (k : Int) : Plain Try.prog 69 [.int k] (.bool (isQu k)) := okOf mixed p69 fun A P hA hP => (by
  obtain ⟨r, hr⟩ : ∃ r, r = isQu k := ⟨_, rfl⟩
  rw [← hr]
  have hr2 := bl_qu hr
  clear hr
  cbv
  repeat' first | with_reducible rfl | with_reducible refine And.intro ?_ ?_ | ((with_reducible intro hcc); first | (cases hcc; done) | skip) | ((with_reducible show goC _ _ _ _ _ _ _ _); cbv) | ((with_reducible show goOps _ _ _ _ _); cbv) | ((with_reducible show okWr _ _ = _); rfl) | ((with_reducible refine hA.fin_pl _ _ _ ?_); cbv) | ((with_reducible refine hA.gb0 true _ ?_); cbv) | ((with_reducible refine hA.gb0 false _ ?_); cbv) | ((with_reducible refine hA.gb _ _ fun vb hvb => ?_); cbv) | (simp only [hA.natLit, hA.natOf, hA.natCast]; cbv)
  all_goals try simp only [hA.add, hA.sub, hA.mul, hA.neg, hA.div, hA.mod, hA.mn, hA.mx, hA.eq, hA.lt, hA.le, hA.nat, hA.R, hA.lep, hA.ltp, hA.seq, inR, n_cast, Int.ofNat_eq_natCast, Option.getD_some, Option.getD_none] at *
  all_goals (subst hr2; grind))
theorem ok124 (k : Int) : Plain Try.prog 124 [.int k] (.bool (isCo k)) := okOf mixed p124 fun A P hA hP => (by
  obtain ⟨r, hr⟩ : ∃ r, r = isCo k := ⟨_, rfl⟩
  rw [← hr]
  have hr2 := bl_co hr
  clear hr
  cbv
  repeat' first | with_reducible rfl | with_reducible refine And.intro ?_ ?_ | ((with_reducible intro hcc); first | (cases hcc; done) | skip) | ((with_reducible show goC _ _ _ _ _ _ _ _); cbv) | ((with_reducible show goOps _ _ _ _ _); cbv) | ((with_reducible show okWr _ _ = _); rfl) | ((with_reducible refine hA.fin_pl _ _ _ ?_); cbv) | ((with_reducible refine hA.gb0 true _ ?_); cbv) | ((with_reducible refine hA.gb0 false _ ?_); cbv) | ((with_reducible refine hA.gb _ _ fun vb hvb => ?_); cbv) | (simp only [hA.natLit, hA.natOf, hA.natCast]; cbv)
  all_goals try simp only [hA.add, hA.sub, hA.mul, hA.neg, hA.div, hA.mod, hA.mn, hA.mx, hA.eq, hA.lt, hA.le, hA.nat, hA.R, hA.lep, hA.ltp, hA.seq, inR, n_cast, Int.ofNat_eq_natCast, Option.getD_some, Option.getD_none] at *
  all_goals (subst hr2; grind))
theorem ok122 (k : Int) : Plain Try.prog 122 [.int k] (.bool (decide (k = 6))) := okOf mixed p122 fun A P hA hP => (by
  obtain ⟨r, hr⟩ : ∃ r, r = decide (k = 6) := ⟨_, rfl⟩
  rw [← hr]
  cbv
  repeat' first | with_reducible rfl | with_reducible refine And.intro ?_ ?_ | ((with_reducible intro hcc); first | (cases hcc; done) | skip) | ((with_reducible show goC _ _ _ _ _ _ _ _); cbv) | ((with_reducible show goOps _ _ _ _ _); cbv) | ((with_reducible show okWr _ _ = _); rfl) | ((with_reducible refine hA.fin_pl _ _ _ ?_); cbv) | (simp only [hA.natLit, hA.natOf, hA.natCast]; cbv)
  all_goals try simp only [hA.add, hA.sub, hA.mul, hA.neg, hA.div, hA.mod, hA.mn, hA.mx, hA.eq, hA.lt, hA.le, hA.nat, hA.R, hA.lep, hA.ltp, hA.seq, inR, n_cast, Int.ofNat_eq_natCast, Option.getD_some, Option.getD_none] at *
  all_goals (subst hr; rfl))
theorem ok114 (k : Int) : Plain Try.prog 114 [.int k] (.bool (shortB k)) := okOf mixed p114 fun A P hA hP => (by
  obtain ⟨r, hr⟩ : ∃ r, r = shortB k := ⟨_, rfl⟩
  rw [← hr]
  have hr2 : r = (decide (-1000000000000000000 < k) && decide (k < 1000000000000000000)) := by rw [hr, shortB]; by_cases a : -1000000000000000000 < k <;> by_cases b : k < 1000000000000000000 <;> simp [a, b]
  clear hr
  cbv
  repeat' first | with_reducible rfl | with_reducible refine And.intro ?_ ?_ | ((with_reducible intro hcc); first | (cases hcc; done) | skip) | ((with_reducible show goC _ _ _ _ _ _ _ _); cbv) | ((with_reducible show goOps _ _ _ _ _); cbv) | ((with_reducible show okWr _ _ = _); rfl) | ((with_reducible refine hA.fin_pl _ _ _ ?_); cbv) | ((with_reducible refine hA.gb0 true _ ?_); cbv) | ((with_reducible refine hA.gb0 false _ ?_); cbv) | ((with_reducible refine hA.gb _ _ fun vb hvb => ?_); cbv) | (simp only [hA.natLit, hA.natOf, hA.natCast]; cbv)
  all_goals try simp only [hA.add, hA.sub, hA.mul, hA.neg, hA.div, hA.mod, hA.mn, hA.mx, hA.eq, hA.lt, hA.le, hA.nat, hA.R, hA.lep, hA.ltp, hA.seq, inR, n_cast, Int.ofNat_eq_natCast, Option.getD_some, Option.getD_none] at *
  all_goals (subst hr2; grind))
set_option maxRecDepth 100000 in
theorem ok117 (s : List UInt8) (c : UInt8) (n : Int) : Plain Try.prog 117 [.str s, .u8 c.toNat, .int n] (.bool (onlyB s c n)) := okOf mixed p117 fun A P hA hP => (by
  obtain ⟨r, hr⟩ : ∃ r, r = onlyB s c n := ⟨_, rfl⟩
  rw [← hr]
  obtain ⟨cc, hcc0⟩ : ∃ cc, cc = c.toNat := ⟨_, rfl⟩
  rw [← hcc0]
  have g1 : ∀ j, j < s.length → (s.getD j 0).toNat ≠ cc → r = false := fun j hj h => by
    have : (s.all fun x => decide (x = c)) = false := by
      rw [List.all_eq_false]
      refine ⟨s.getD j 0, by simp [List.getD, hj], ?_⟩
      simp only [decide_eq_true_eq]
      intro e; rw [e] at h; exact h hcc0.symm
    rw [hr, onlyB, this, Bool.false_and]
  have g2 : (∀ j, j < s.length → (s.getD j 0).toNat = cc) → r = decide (n ≤ s.length) := fun h => by
    have : (s.all fun x => decide (x = c)) = true := by
      rw [List.all_eq_true]
      intro x hx
      obtain ⟨j, hj, rfl⟩ := List.getElem_of_mem hx
      have := h j hj
      rw [hcc0] at this
      simp only [decide_eq_true_eq]
      have e : s.getD j 0 = s[j] := by simp [List.getD, hj]
      rw [e] at this
      exact UInt8.toNat_inj.1 this
    rw [hr, onlyB, this, Bool.true_and]
  clear hr
  cbv
  repeat' first | with_reducible rfl | with_reducible refine And.intro ?_ ?_ | ((with_reducible intro hcc); first | (cases hcc; done) | skip) | ((with_reducible show goC _ _ _ _ _ _ _ _); cbv) | ((with_reducible show goOps _ _ _ _ _); cbv) | ((with_reducible show okWr _ _ = _); rfl) | ((with_reducible refine hA.fin_pl _ _ _ ?_); cbv) | ((with_reducible refine hA.slen _ _ _ _ _ fun z hz hb => ?_); cbv) | ((with_reducible refine hA.six _ _ _ fun z6 c hz6 hc hc2 => ?_); cbv) | ((with_reducible refine hA.sapp _ _ _ ⟨?_, fun sl hsl => ?_⟩); rotate_left; cbv) | (simp only [hA.natLit, hA.natOf, hA.natCast]; cbv)
  all_goals try simp only [hA.add, hA.sub, hA.mul, hA.neg, hA.div, hA.mod, hA.mn, hA.mx, hA.eq, hA.lt, hA.le, hA.nat, hA.R, hA.lep, hA.ltp, hA.seq, inR, n_cast, Int.ofNat_eq_natCast, Option.getD_some, Option.getD_none] at *
  refine hA.loopI (fun m st => ∃ i : Int, 0 ≤ i ∧ m + i = s.length ∧ (∀ j : Nat, j < i → (s.getD j 0).toNat = cc) ∧ st = ⟨[(7, .int i), (6, .bool false), (0, .str s), (1, .u8 cc), (2, .int n)], []⟩) s.length _
    (Weak.keep (env' := [(7, .int 0), (6, .bool false), (0, .str s), (1, .u8 cc), (2, .int n)]) ⟨rfl, rfl, rfl, rfl, rfl, trivial⟩) ⟨0, by omega, by omega, fun j hj => by omega, rfl⟩ ?_
  rintro m st K ⟨i, h0, h1, h2, rfl⟩ hK
  by_cases hin : i < s.length
  · have k1 := g1 i.toNat (by omega)
    have k2 : (s.getD i.toNat 0).toNat = cc → ∀ st1, Weak (hpF []) st1 ⟨[(7, .int (i + 1)), (6, .bool false), (0, .str s), (1, .u8 cc), (2, .int n)], []⟩ → K st1 := fun e st1 hw =>
      hK st1 (m - 1) _ (by omega) hw ⟨i + 1, by omega, by omega, fun j hj => by
        by_cases hji : (j : Int) < i
        · exact h2 j hji
        · have : j = i.toNat := by omega
          rw [this]; exact e, rfl⟩
    obtain ⟨b, hbN⟩ : ∃ b, b = (s.getD i.toNat 0).toNat := ⟨_, rfl⟩
    rw [← hbN] at k1 k2
    clear hK h2 g1 g2
    cbv
    repeat' first | with_reducible rfl | with_reducible refine And.intro ?_ ?_ | ((with_reducible intro hcc); first | (cases hcc; done) | skip) | ((with_reducible show goC _ _ _ _ _ _ _ _); cbv) | ((with_reducible show goOps _ _ _ _ _); cbv) | ((with_reducible show okWr _ _ = _); rfl) | ((with_reducible refine hA.six _ _ _ fun z6 c hz6 hc hc2 => ?_); (have e6 : b = c := (by rw [hc, hbN])); subst e6; cbv) | ((with_reducible refine hA.fin_pl _ _ _ ?_); cbv) | ((with_reducible refine hA.slen _ _ _ _ _ fun z hz hb => ?_); cbv) | ((with_reducible refine hA.six _ _ _ fun z6 c hz6 hc hc2 => ?_); cbv) | ((with_reducible refine hA.sapp _ _ _ ⟨?_, fun sl hsl => ?_⟩); rotate_left; cbv) | (simp only [hA.natLit, hA.natOf, hA.natCast]; cbv)
    all_goals try simp only [hA.add, hA.sub, hA.mul, hA.neg, hA.div, hA.mod, hA.mn, hA.mx, hA.eq, hA.lt, hA.le, hA.nat, hA.R, hA.lep, hA.ltp, hA.seq, inR, n_cast, Int.ofNat_eq_natCast, Option.getD_some, Option.getD_none] at *
    all_goals first
      | omega
      | (have := hb trivial trivial trivial; omega)
      | (refine k2 ?_ _ (Weak.keep ⟨rfl, rfl, rfl, rfl, rfl, trivial⟩); clear k1 k2; grind)
      | (rw [k1 (by clear k1 k2; grind)]; done)
      | (exfalso; clear k1 k2; simp only [decide_eq_true_eq, decide_eq_false_iff_not] at *; omega)
      | (trace_state; fail)
  · have hr2 := g2 fun j hj => h2 j (by omega)
    clear hK h2 g1 g2
    cbv
    repeat' first | with_reducible rfl | with_reducible refine And.intro ?_ ?_ | ((with_reducible intro hcc); first | (cases hcc; done) | skip) | ((with_reducible show goC _ _ _ _ _ _ _ _); cbv) | ((with_reducible show goOps _ _ _ _ _); cbv) | ((with_reducible show okWr _ _ = _); rfl) | (exfalso; simp only [hA.lt, hA.sub, decide_eq_true_eq, decide_eq_false_iff_not, n_cast] at *; omega) | ((with_reducible refine hA.fin_pl _ _ _ ?_); cbv) | ((with_reducible refine hA.slen _ _ _ _ _ fun z hz hb => ?_); cbv) | ((with_reducible refine hA.six _ _ _ fun z6 c hz6 hc hc2 => ?_); cbv) | ((with_reducible refine hA.sapp _ _ _ ⟨?_, fun sl hsl => ?_⟩); rotate_left; cbv) | (simp only [hA.natLit, hA.natOf, hA.natCast]; cbv)
    all_goals try simp only [hA.add, hA.sub, hA.mul, hA.neg, hA.div, hA.mod, hA.mn, hA.mx, hA.eq, hA.lt, hA.le, hA.nat, hA.R, hA.lep, hA.ltp, hA.seq, inR, n_cast, Int.ofNat_eq_natCast, Option.getD_some, Option.getD_none] at *
    all_goals first
      | omega
      | (rw [hr2]; congr 3; done)
      | (rw [hr2]; subst_vars; rfl)
      | (clear hr2; simp at *; omega)
      | (trace_state; fail))
/-! ### A list asked with a function -/
def fstI (q : Int → Bool) : List Int → Int → Int
  | [], _ => -1
  | k :: r, i => if q k then i else fstI q r (i + 1)
theorem fstI_any (q : Int → Bool) : ∀ (l : List Int) (i : Int), 0 ≤ i → decide (0 ≤ fstI q l i) = l.any q
  | [], i, _ => rfl
  | k :: r, i, h => by
    simp only [fstI, List.any_cons]
    by_cases hq : q k = true
    · simp [hq, h]
    · simp only [hq, Bool.false_eq_true, if_false, Bool.false_or]
      exact fstI_any q r (i + 1) (by omega)
def fOK (Pr : Program) (G : FuncId) : Prop := ∃ func, Pr.funcs[G]? = some func ∧ ¬func.name = "runtime.NumGoroutine" ∧ func.body.isNone = false
abbrev gD (G : FuncId) : D := .fn (.func G) [] []
theorem gbox_side {args : RF → List D} {G : FuncId} {d : D} (ha : ∀ t, args t = rens t (args id)) (hl : lts 1 (args id) = true) (hd : ∀ t, d = d.ren t) : Side args (fun _ => [.box [gD G]]) (fun _ => d) (fun _ => [.box [gD G]]) :=
  ⟨ha, hl, fun t => rfl, by intro o ho; simp at ho; subst ho; rfl, hd, fun t => rfl, by simp⟩
theorem gbox_fin {A : Ar} (hA : A.Ok) {G : FuncId} {l' : List O} {d' d : D} (h0 : hpF l' 0 = .box [gD G]) (h1 : d = d') (hd : ∀ t, d = d.ren t) (hl : ∀ m, d.lt m = true) : A.finv [.box [gD G]] l' d' [.box [gD G]] d :=
  hA.finv _ _ _ _ _ (FinV.ren [0] (fun _ => [.box [gD G]]) (fun _ => d) rfl (.inl h1) ⟨h0, trivial⟩ hd (hl _) (fun t => rfl) (by intro o ho; simp at ho; subst ho; rfl))
theorem ok170 {G : FuncId} {p : Int → Bool} (hG : fOK Try.prog G) (k : Int) (h : Plain Try.prog G [.int k] (.bool (p k))) : Proc Try.prog 170 (fun t => [.int k, .ref (t 0) 0]) (fun _ => [.box [gD G]]) (fun _ => .bool (!p k)) (fun _ => [.box [gD G]]) := by
  obtain ⟨b, hb⟩ : ∃ b, b = p k := ⟨_, rfl⟩
  obtain ⟨nb, hnb⟩ : ∃ nb, nb = !b := ⟨_, rfl⟩
  rw [← hb] at h ⊢
  rw [← hnb]
  refine procOf mixed p170 (gbox_side (fun t => rfl) rfl (fun t => rfl)) fun A P hA hP => ?_
  have hG' : ∃ func, P.funcs[G]? = some func ∧ ¬func.name = "runtime.NumGoroutine" ∧ func.body.isNone = false := hP ▸ hG
  cases b
  all_goals
    cbv
    repeat' first | with_reducible rfl | with_reducible refine And.intro ?_ ?_ | ((with_reducible intro hcc); first | (cases hcc; done) | skip) | ((with_reducible show goC _ _ _ _ _ _ _ _); cbv) | ((with_reducible show goOps _ _ _ _ _); cbv) | ((with_reducible show okWr _ _ = _); rfl) | ((with_reducible refine callK_eq hA hP ?_ ?_ ?_ (Wks.refl _) (fun _ _ => h)); exact rfl; exact rfl; cbv) | ((with_reducible refine hA.fin_pl _ _ _ ?_); cbv) | (simp only [hA.natLit, hA.natOf, hA.natCast]; cbv)
    all_goals try simp only [hA.add, hA.sub, hA.mul, hA.neg, hA.div, hA.mod, hA.mn, hA.mx, hA.eq, hA.lt, hA.le, hA.nat, hA.R, hA.lep, hA.ltp, hA.seq, inR, n_cast, Int.ofNat_eq_natCast, Option.getD_some, Option.getD_none] at *
    all_goals first
      | exact hG'
      | (subst hnb; exact gbox_fin hA rfl rfl (fun _ => rfl) fun _ => rfl)
      | (trace_state; fail)
set_option maxRecDepth 100000 in
theorem ok194 {G : FuncId} {p : Int → Bool} (hG : fOK Try.prog G) (h : ∀ k, Plain Try.prog G [.int k] (.bool (p k))) (l : List Int) (es : List (List E)) (he : es = l.map ir) (hf : fOK Try.prog 170) :
    Proc Try.prog 194 (fun t => [.e (.sl es), .fn (.func 170) [] [.ref (t 0) 0]]) (fun _ => [.box [gD G]]) (fun _ => .int (fstI (fun k => !p k) l 0)) (fun _ => [.box [gD G]]) := by
  obtain ⟨r, hr⟩ : ∃ r, r = fstI (fun k => !p k) l 0 := ⟨_, rfl⟩
  rw [← hr]
  refine procOf mixed p194 (gbox_side (fun t => rfl) rfl (fun t => rfl)) fun A P hA hP => ?_
  have hf' : ∃ func, P.funcs[170]? = some func ∧ ¬func.name = "runtime.NumGoroutine" ∧ func.body.isNone = false := hP ▸ hf
  have hl1 : es.length = l.length := by rw [he]; simp
  cbv
  repeat' first | with_reducible rfl | with_reducible refine And.intro ?_ ?_ | ((with_reducible intro hcc); first | (cases hcc; done) | skip) | ((with_reducible show goC _ _ _ _ _ _ _ _); cbv) | ((with_reducible show goOps _ _ _ _ _); cbv) | ((with_reducible show okWr _ _ = _); rfl) | ((with_reducible refine hA.fin_pl _ _ _ ?_); cbv) | ((with_reducible refine hA.len _ _ _ _ _ fun z hz hb => ?_); cbv) | ((with_reducible refine hA.off _ _ _ _ fun b hb => ?_); cbv) | ((with_reducible refine hA.sapp _ _ _ ⟨?_, fun sl hsl => ?_⟩); rotate_left; cbv) | (simp only [hA.natLit, hA.natOf, hA.natCast]; cbv)
  all_goals try simp only [hA.add, hA.sub, hA.mul, hA.neg, hA.div, hA.mod, hA.mn, hA.mx, hA.eq, hA.lt, hA.le, hA.nat, hA.R, hA.lep, hA.ltp, hA.seq, inR, n_cast, Int.ofNat_eq_natCast, Option.getD_some, Option.getD_none] at *
  refine hA.loopI (fun m s => ∃ (i : Int), 0 ≤ i ∧ m + i = es.length ∧ r = fstI (fun k => !p k) (l.drop i.toNat) i ∧ s = ⟨[(8, .int i), (7, .int z), (0, .e (.sl es)), (1, .fn (.func 170) [] [.ref 0 0])], [.box [gD G]]⟩) es.length _
    (Weak.keep (env' := [(8, .int 0), (7, .int z), (0, .e (.sl es)), (1, .fn (.func 170) [] [.ref 0 0])]) ⟨rfl, rfl, rfl, rfl, trivial⟩) ⟨0, by omega, by omega, hr, rfl⟩ ?_
  rintro m s K ⟨i, h0, h1, h2, rfl⟩ hK
  by_cases hin : (0 : Int) ≤ i ∧ i < es.length
  · obtain ⟨k, e1, q1⟩ := int_at he hin
    have h309 := ok170 hG k (h k)
    obtain ⟨b, hb⟩ : ∃ b, b = !p k := ⟨_, rfl⟩
    rw [← hb] at h309
    have hd : l.drop i.toNat = k :: l.drop (i.toNat + 1) := by
      obtain ⟨a, c⟩ := List.getElem?_eq_some_iff.1 q1
      rw [List.drop_eq_getElem_cons a, c]
    rw [hd, fstI, ← hb] at h2
    have hK2 : ∀ (env : List (Nat × D)), b = false → subL [(8, .int (i + 1)), (7, .int z), (0, .e (.sl es)), (1, .fn (.func 170) [] [.ref 0 0])] env → K ⟨env, [.box [gD G]]⟩ := fun env g1 g3 =>
      hK _ (m - 1) _ (by omega) (Weak.keep g3) ⟨i + 1, by omega, by omega, by rw [h2, g1, show (i + 1).toNat = i.toNat + 1 by omega]; rfl, rfl⟩
    clear hK hr hb
    cases b
    all_goals
      clear hd
      cbv
      repeat' first | with_reducible rfl | with_reducible refine And.intro ?_ ?_ | ((with_reducible intro hcc); first | (cases hcc; done) | skip) | ((with_reducible show goC _ _ _ _ _ _ _ _); cbv) | ((with_reducible show goOps _ _ _ _ _); cbv) | ((with_reducible show okWr _ _ = _); rfl) | ((with_reducible refine hA.row es _ _ ⟨hin, fun row hrow => ?_⟩); rw [e1] at hrow; subst hrow; cbv) | ((with_reducible show A.call _ _ _ _ _ 170 _ _ _); have hc := h309; refine callK_pr hA hP [0] (by rfl) (by exact ⟨rfl, trivial⟩) (Wks.refl _) ?_ (fun _ _ => hc) hc.side; cbv) | ((with_reducible refine hA.fin_pl _ _ _ ?_); cbv) | ((with_reducible refine hA.len _ _ _ _ _ fun z hz hb => ?_); cbv) | ((with_reducible refine hA.off _ _ _ _ fun b hb => ?_); cbv) | ((with_reducible refine hA.sapp _ _ _ ⟨?_, fun sl hsl => ?_⟩); rotate_left; cbv) | (simp only [hA.natLit, hA.natOf, hA.natCast]; cbv)
      all_goals try simp only [hA.add, hA.sub, hA.mul, hA.neg, hA.div, hA.mod, hA.mn, hA.mx, hA.eq, hA.lt, hA.le, hA.nat, hA.R, hA.lep, hA.ltp, hA.seq, inR, n_cast, Int.ofNat_eq_natCast, Option.getD_some, Option.getD_none] at *
      all_goals first
        | omega
        | exact hf'
        | (exfalso; simp only [decide_eq_true_eq, decide_eq_false_iff_not] at *; omega)
        | exact hK2 _ (by first | exact rfl | exact trivial) ⟨rfl, rfl, rfl, rfl, trivial⟩
        | (have e5 : r = i := h2
           exact gbox_fin hA rfl (by rw [e5]) (fun _ => rfl) fun _ => rfl)
        | (clear hK2 h2; simp at *; omega)
        | (trace_state; fail)
  · have hd : l.drop i.toNat = [] := by rw [List.drop_eq_nil_iff]; omega
    rw [hd] at h2
    have e5 : r = -1 := h2
    clear hK hr h2
    cbv
    repeat' first | with_reducible rfl | with_reducible refine And.intro ?_ ?_ | ((with_reducible intro hcc); first | (cases hcc; done) | skip) | ((with_reducible show goC _ _ _ _ _ _ _ _); cbv) | ((with_reducible show goOps _ _ _ _ _); cbv) | ((with_reducible show okWr _ _ = _); rfl) | (exfalso; simp only [hA.lt, hA.sub, decide_eq_true_eq, decide_eq_false_iff_not, n_cast] at *; omega) | ((with_reducible refine hA.fin_pl _ _ _ ?_); cbv) | ((with_reducible refine hA.len _ _ _ _ _ fun z hz hb => ?_); cbv) | ((with_reducible refine hA.off _ _ _ _ fun b hb => ?_); cbv) | ((with_reducible refine hA.sapp _ _ _ ⟨?_, fun sl hsl => ?_⟩); rotate_left; cbv) | (simp only [hA.natLit, hA.natOf, hA.natCast]; cbv)
    all_goals try simp only [hA.add, hA.sub, hA.mul, hA.neg, hA.div, hA.mod, hA.mn, hA.mx, hA.eq, hA.lt, hA.le, hA.nat, hA.R, hA.lep, hA.ltp, hA.seq, inR, n_cast, Int.ofNat_eq_natCast, Option.getD_some, Option.getD_none] at *
    all_goals first
      | exact gbox_fin hA rfl (by rw [e5]) (fun _ => rfl) fun _ => rfl
      | omega
      | (trace_state; fail)
theorem ok169 {G : FuncId} {p : Int → Bool} (hG : fOK Try.prog G) (h : ∀ k, Plain Try.prog G [.int k] (.bool (p k))) (l : List Int) (es : List (List E)) (he : es = l.map ir) (hf : fOK Try.prog 170) :
    Proc Try.prog 169 (fun t => [.e (.sl es), .fn (.func 170) [] [.ref (t 0) 0]]) (fun _ => [.box [gD G]]) (fun _ => .bool (l.any fun k => !p k)) (fun _ => [.box [gD G]]) := by
  have h324 := ok194 hG h l es he hf
  obtain ⟨x, hx⟩ : ∃ x, x = fstI (fun k => !p k) l 0 := ⟨_, rfl⟩
  obtain ⟨r, hr⟩ : ∃ r, r = l.any fun k => !p k := ⟨_, rfl⟩
  rw [← hx] at h324
  have hr2 : r = decide (0 ≤ x) := by rw [hr, hx, fstI_any _ _ _ (Int.le_refl 0)]
  rw [← hr]
  refine procOf mixed p169 (gbox_side (fun t => rfl) rfl (fun t => rfl)) fun A P hA hP => ?_
  clear hr hx
  cbv
  repeat' first | with_reducible rfl | with_reducible refine And.intro ?_ ?_ | ((with_reducible intro hcc); first | (cases hcc; done) | skip) | ((with_reducible show goC _ _ _ _ _ _ _ _); cbv) | ((with_reducible show goOps _ _ _ _ _); cbv) | ((with_reducible show okWr _ _ = _); rfl) | ((with_reducible show A.call _ _ _ _ _ 194 _ _ _); have hc := h324; refine callK_pr hA hP [0] (by rfl) (by exact ⟨rfl, trivial⟩) (Wks.refl _) ?_ (fun _ _ => hc) hc.side; cbv) | ((with_reducible refine hA.fin_pl _ _ _ ?_); cbv) | (simp only [hA.natLit, hA.natOf, hA.natCast]; cbv)
  all_goals try simp only [hA.add, hA.sub, hA.mul, hA.neg, hA.div, hA.mod, hA.mn, hA.mx, hA.eq, hA.lt, hA.le, hA.nat, hA.R, hA.lep, hA.ltp, hA.seq, inR, n_cast, Int.ofNat_eq_natCast, Option.getD_some, Option.getD_none] at *
  all_goals exact gbox_fin hA rfl (by rw [hr2]) (fun _ => rfl) fun _ => rfl
theorem fok309 : fOK Try.prog 170 := ⟨_, Try.func170, by decide, rfl⟩
theorem fok274 : fOK Try.prog 122 := ⟨_, Try.func122, by decide, rfl⟩
theorem fok275 : fOK Try.prog 123 := ⟨_, Try.func123, by decide, rfl⟩
theorem fok276 : fOK Try.prog 124 := ⟨_, Try.func124, by decide, rfl⟩
theorem ok121 {G : FuncId} {p : Int → Bool} (hG : fOK Try.prog G) (h : ∀ k, Plain Try.prog G [.int k] (.bool (p k))) (l : List Int) (es : List (List E)) (he : es = l.map ir) (n : Int) :
    Plain Try.prog 121 [.e (.sl es), .int n, gD G] (.bool (decide (n ≤ l.length) && l.all p)) := okOf mixed p121 fun A P hA hP => (by
  have h308 := ok169 hG h l es he fok309
  have hl1 : es.length = l.length := by rw [he]; simp
  obtain ⟨b, hb⟩ : ∃ b, b = l.any fun k => !p k := ⟨_, rfl⟩
  rw [← hb] at h308
  obtain ⟨r, hr⟩ : ∃ r, r = (decide (n ≤ l.length) && l.all p) := ⟨_, rfl⟩
  have hr2 : r = (decide (n ≤ es.length) && !b) := by
    rw [hr, hl1, hb]
    congr 1
    rw [List.not_any_eq_all_not]
    simp
  rw [← hr]
  clear hr hb
  by_cases hn : n ≤ es.length
  · rw [decide_eq_true hn, Bool.true_and] at hr2
    have e1 : ∀ z : Int, z = es.length → A.le n z = true := fun z hz => by rw [hA.le]; exact decide_eq_true (by omega)
    cases b
    all_goals
      cbv
      repeat' first | with_reducible rfl | (simp only [e2]; cbv) | with_reducible refine And.intro ?_ ?_ | ((with_reducible intro hcc); first | (cases hcc; done) | skip) | ((with_reducible show goC _ _ _ _ _ _ _ _); cbv) | ((with_reducible show goOps _ _ _ _ _); cbv) | ((with_reducible show okWr _ _ = _); rfl) | ((with_reducible refine hA.len _ _ _ _ _ fun z hz hb => ?_); have e2 := e1 z hz; cbv) | ((with_reducible show A.call _ _ _ _ _ 169 _ _ _); have hc := h308; refine callK_ro hA hP [0] (by rfl) (by exact ⟨rfl, trivial⟩) (Wks.refl _) ?_ (fun _ _ => hc) hc.side; cbv) | ((with_reducible refine hA.fin_pl _ _ _ ?_); cbv) | ((with_reducible refine hA.len _ _ _ _ _ fun z hz hb => ?_); cbv) | ((with_reducible refine hA.gb0 true _ ?_); cbv) | ((with_reducible refine hA.gb0 false _ ?_); cbv) | ((with_reducible refine hA.gb _ _ fun vb hvb => ?_); cbv) | (simp only [hA.natLit, hA.natOf, hA.natCast]; cbv)
      all_goals try simp only [hA.add, hA.sub, hA.mul, hA.neg, hA.div, hA.mod, hA.mn, hA.mx, hA.eq, hA.lt, hA.le, hA.nat, hA.R, hA.lep, hA.ltp, hA.seq, inR, n_cast, Int.ofNat_eq_natCast, Option.getD_some, Option.getD_none] at *
      all_goals first
        | (rw [hr2]; done)
        | (rw [hr2]; rfl)
        | (trace_state; fail)
  · rw [decide_eq_false hn, Bool.false_and] at hr2
    have e1 : ∀ z : Int, z = es.length → A.le n z = false := fun z hz => by rw [hA.le]; exact decide_eq_false (by omega)
    cbv
    repeat' first | with_reducible rfl | (simp only [e2]; cbv) | with_reducible refine And.intro ?_ ?_ | ((with_reducible intro hcc); first | (cases hcc; done) | skip) | ((with_reducible show goC _ _ _ _ _ _ _ _); cbv) | ((with_reducible show goOps _ _ _ _ _); cbv) | ((with_reducible show okWr _ _ = _); rfl) | ((with_reducible refine hA.len _ _ _ _ _ fun z hz hb => ?_); have e2 := e1 z hz; cbv) | ((with_reducible show A.call _ _ _ _ _ 169 _ _ _); simp only [Bool.and_false, decide_false, Bool.false_eq_true]; refine callK_no hA (.bool false) ?_; cbv) | ((with_reducible refine hA.fin_pl _ _ _ ?_); cbv) | ((with_reducible refine hA.len _ _ _ _ _ fun z hz hb => ?_); cbv) | ((with_reducible refine hA.gb0 true _ ?_); cbv) | ((with_reducible refine hA.gb0 false _ ?_); cbv) | ((with_reducible refine hA.gb _ _ fun vb hvb => ?_); cbv) | (simp only [hA.natLit, hA.natOf, hA.natCast]; cbv)
    all_goals try simp only [hA.add, hA.sub, hA.mul, hA.neg, hA.div, hA.mod, hA.mn, hA.mx, hA.eq, hA.lt, hA.le, hA.nat, hA.R, hA.lep, hA.ltp, hA.seq, inR, n_cast, Int.ofNat_eq_natCast, Option.getD_some, Option.getD_none] at *
    all_goals first
      | (rw [hr2]; done)
      | (rw [hr2]; rfl)
      | (trace_state; fail))
end Go.Proofs.Ytfplalbognalkaa.Ab
/- Blocks: their kids by letters, and by kinds. -/
namespace Go.Proofs.Ytfplalbognalkaa.Ab
open Go
theorem ok117a (s : List UInt8) (n : Int) : Plain Try.prog 117 [.str s, .u8 115, .int n] (.bool (onlyB s 115 n)) := ok117 s 115 n
theorem ok117b (s : List UInt8) (n : Int) : Plain Try.prog 117 [.str s, .u8 102, .int n] (.bool (onlyB s 102 n)) := ok117 s 102 n
theorem ok117c (s : List UInt8) (n : Int) : Plain Try.prog 117 [.str s, .u8 99, .int n] (.bool (onlyB s 99 n)) := ok117 s 99 n
set_option maxRecDepth 100000 in
set_option maxHeartbeats 1000000 in
theorem ok116 (ls : List UInt8) (n : Int) : Plain Try.prog 116 [.str ls, .int n] (.bool (sBlock ls n)) := okOf mixed p116 fun A P hA hP => (by
  obtain ⟨r, hr⟩ : ∃ r, r = sBlock ls n := ⟨_, rfl⟩
  rw [← hr]
  obtain ⟨zl, hzl⟩ : ∃ z : Int, z = ls.length := ⟨_, rfl⟩
  by_cases hn : 0 ≤ n ∧ n ≤ ls.length
  · obtain ⟨pre, hpre⟩ : ∃ p, p = ls.take n.toNat := ⟨_, rfl⟩
    obtain ⟨rest, hrest⟩ : ∃ p, p = ls.drop n.toNat := ⟨_, rfl⟩
    obtain ⟨cut, hcut⟩ : ∃ p, p = cutC rest := ⟨_, rfl⟩
    obtain ⟨b1, hb1⟩ : ∃ b, b = onlyB pre 115 0 := ⟨_, rfl⟩
    obtain ⟨b2, hb2⟩ : ∃ b, b = onlyB cut 102 1 := ⟨_, rfl⟩
    have h1 : Plain Try.prog 117 [.str pre, .u8 115, .int 0] (.bool b1) := by rw [hb1]; exact ok117a pre 0
    have h2 : Plain Try.prog 117 [.str cut, .u8 102, .int 1] (.bool b2) := by rw [hb2]; exact ok117b cut 1
    have hr2 : r = (b1 && b2) := by rw [hr, sBlock, decide_eq_true hn, Bool.true_and, hb1, hb2, hpre, hcut, hrest]
    obtain ⟨zr, hzr⟩ : ∃ z : Int, z = rest.length := ⟨_, rfl⟩
    have hrl : zr = ls.length - n := by rw [hzr, hrest, List.length_drop]; omega
    obtain ⟨cN, hcN⟩ : ∃ c, c = (rest.getD (rest.length - 1) 0).toNat := ⟨_, rfl⟩
    have e1 : A.lt n 0 = false := by rw [hA.lt]; exact decide_eq_false (by omega)
    have e2 : A.lt zl n = false := by rw [hA.lt]; exact decide_eq_false (by omega)
    clear hr hb1 hb2
    have hq : (zr - 1).toNat = rest.length - 1 := by omega
    have hq2 : (A.sub zr 1).toNat = rest.length - 1 := by rw [hA.sub, hq]
    by_cases hc0 : 0 < zr
    · have e3 : A.lt 0 zr = true := by rw [hA.lt]; exact decide_eq_true hc0
      by_cases hc9 : cN = 99
      · have e4 : A.eq (@NatCast.natCast Int instNatCastInt cN) 99 = true := by rw [hA.eq, n_cast]; exact decide_eq_true (by omega)
        have hcut2 : cut = rest.take (rest.length - 1) := by
          have q9 : rest.getD (rest.length - 1) 0 = 99 := UInt8.toNat_inj.1 (by rw [← hcN, hc9]; rfl)
          rw [hcut, cutC, if_pos ⟨by omega, q9⟩]
        clear hcut
        cases b1
        all_goals
          cbv
          repeat' first | with_reducible rfl | (simp only [e4]; cbv) | (simp only [e3]; cbv) | (simp only [e2]; cbv) | (simp only [e1]; cbv) | with_reducible refine And.intro ?_ ?_ | ((with_reducible intro hcc); first | (cases hcc; done) | skip) | ((with_reducible show goC _ _ _ _ _ _ _ _); cbv) | ((with_reducible show goOps _ _ _ _ _); cbv) | ((with_reducible show okWr _ _ = _); rfl) | ((with_reducible refine hA.slen rest _ _ _ _ fun z hz hb => ?_); (have e6 : z = zr := hz.trans hzr.symm); replace e6 := e6.symm; subst e6; cbv) | ((with_reducible refine hA.slen ls _ _ _ _ fun z hz hb => ?_); (have e6 : z = zl := hz.trans hzl.symm); replace e6 := e6.symm; subst e6; cbv) | ((with_reducible refine hA.ssl ls none _ _ ⟨?_, fun sl hsl => ?_⟩); rotate_left; (have e6 : sl = pre := (by rw [hsl, hpre]; simp)); replace e6 := e6.symm; subst e6; cbv) | ((with_reducible refine hA.ssl ls (some n) _ _ ⟨?_, fun sl hsl => ?_⟩); rotate_left; (have e6 : sl = rest := (by rw [hsl, hrest]; simp)); replace e6 := e6.symm; subst e6; cbv) | ((with_reducible refine hA.ssl rest none _ _ ⟨?_, fun sl hsl => ?_⟩); rotate_left; (have e6 : sl = cut := hsl.trans ((congrArg (fun k => rest.take k) hq2).trans hcut2.symm)); replace e6 := e6.symm; subst e6; cbv) | ((with_reducible refine hA.six rest _ _ fun z6 c hz6 hc hc2 => ?_); (have e6 : c = cN := hc.trans ((congrArg (fun k => (rest.getD k 0).toNat) hq2).trans hcN.symm)); replace e6 := e6.symm; subst e6; cbv) | ((with_reducible refine callK_eq hA hP ?_ ?_ ?_ (Wks.refl _) (fun _ _ => h1)); exact rfl; exact rfl; cbv) | ((with_reducible refine callK_eq hA hP ?_ ?_ ?_ (Wks.refl _) (fun _ _ => h2)); exact rfl; exact rfl; cbv) | ((with_reducible show A.call _ _ _ _ false _ _ _ _); refine callK_no hA (.bool false) ?_; cbv) | ((with_reducible refine hA.fin_pl _ _ _ ?_); cbv) | ((with_reducible refine hA.slen _ _ _ _ _ fun z hz hb => ?_); cbv) | ((with_reducible refine hA.six _ _ _ fun z6 c hz6 hc hc2 => ?_); cbv) | ((with_reducible refine hA.ssl _ _ _ _ ⟨?_, fun sl hsl => ?_⟩); rotate_left; cbv) | ((with_reducible refine hA.gb0 true _ ?_); cbv) | ((with_reducible refine hA.gb0 false _ ?_); cbv) | ((with_reducible refine hA.gb _ _ fun vb hvb => ?_); cbv) | (simp only [hA.natLit, hA.natOf, hA.natCast]; cbv)
          all_goals try simp only [hA.add, hA.sub, hA.mul, hA.neg, hA.div, hA.mod, hA.mn, hA.mx, hA.eq, hA.lt, hA.le, hA.nat, hA.R, hA.lep, hA.ltp, hA.seq, inR, n_cast, Int.ofNat_eq_natCast, Option.getD_some, Option.getD_none] at *
          all_goals first
            | omega
            | (rw [hr2]; rfl)
            | (rw [hr2]; simp_all; done)
            | (rw [hr2]; done)
            | (have := hb trivial trivial trivial; omega)
            | (simp only [Option.getD_some, Option.getD_none]; omega)
            | (trace_state; fail)
      · have e4 : A.eq (@NatCast.natCast Int instNatCastInt cN) 99 = false := by rw [hA.eq, n_cast]; exact decide_eq_false (by omega)
        have hcut2 : rest = cut := by
          symm
          rw [hcut, cutC, if_neg fun q => hc9 ?_]
          rw [hcN, q.2]
          rfl
        subst hcut2
        clear hcut
        cases b1
        all_goals
          cbv
          repeat' first | with_reducible rfl | (simp only [e4]; cbv) | (simp only [e3]; cbv) | (simp only [e2]; cbv) | (simp only [e1]; cbv) | with_reducible refine And.intro ?_ ?_ | ((with_reducible intro hcc); first | (cases hcc; done) | skip) | ((with_reducible show goC _ _ _ _ _ _ _ _); cbv) | ((with_reducible show goOps _ _ _ _ _); cbv) | ((with_reducible show okWr _ _ = _); rfl) | ((with_reducible refine hA.slen rest _ _ _ _ fun z hz hb => ?_); (have e6 : z = zr := hz.trans hzr.symm); replace e6 := e6.symm; subst e6; cbv) | ((with_reducible refine hA.slen ls _ _ _ _ fun z hz hb => ?_); (have e6 : z = zl := hz.trans hzl.symm); replace e6 := e6.symm; subst e6; cbv) | ((with_reducible refine hA.ssl ls none _ _ ⟨?_, fun sl hsl => ?_⟩); rotate_left; (have e6 : sl = pre := (by rw [hsl, hpre]; simp)); replace e6 := e6.symm; subst e6; cbv) | ((with_reducible refine hA.ssl ls (some n) _ _ ⟨?_, fun sl hsl => ?_⟩); rotate_left; (have e6 : sl = rest := (by rw [hsl, hrest]; simp)); replace e6 := e6.symm; subst e6; cbv) | ((with_reducible refine hA.six rest _ _ fun z6 c hz6 hc hc2 => ?_); (have e6 : c = cN := hc.trans ((congrArg (fun k => (rest.getD k 0).toNat) hq2).trans hcN.symm)); replace e6 := e6.symm; subst e6; cbv) | ((with_reducible refine callK_eq hA hP ?_ ?_ ?_ (Wks.refl _) (fun _ _ => h1)); exact rfl; exact rfl; cbv) | ((with_reducible refine callK_eq hA hP ?_ ?_ ?_ (Wks.refl _) (fun _ _ => h2)); exact rfl; exact rfl; cbv) | ((with_reducible show A.call _ _ _ _ false _ _ _ _); refine callK_no hA (.bool false) ?_; cbv) | ((with_reducible refine hA.fin_pl _ _ _ ?_); cbv) | ((with_reducible refine hA.slen _ _ _ _ _ fun z hz hb => ?_); cbv) | ((with_reducible refine hA.six _ _ _ fun z6 c hz6 hc hc2 => ?_); cbv) | ((with_reducible refine hA.ssl _ _ _ _ ⟨?_, fun sl hsl => ?_⟩); rotate_left; cbv) | ((with_reducible refine hA.gb0 true _ ?_); cbv) | ((with_reducible refine hA.gb0 false _ ?_); cbv) | ((with_reducible refine hA.gb _ _ fun vb hvb => ?_); cbv) | (simp only [hA.natLit, hA.natOf, hA.natCast]; cbv)
          all_goals try simp only [hA.add, hA.sub, hA.mul, hA.neg, hA.div, hA.mod, hA.mn, hA.mx, hA.eq, hA.lt, hA.le, hA.nat, hA.R, hA.lep, hA.ltp, hA.seq, inR, n_cast, Int.ofNat_eq_natCast, Option.getD_some, Option.getD_none] at *
          all_goals first
            | omega
            | (rw [hr2]; rfl)
            | (rw [hr2]; simp_all; done)
            | (rw [hr2]; done)
            | (have := hb trivial trivial trivial; omega)
            | (simp only [Option.getD_some, Option.getD_none]; omega)
            | (trace_state; fail)
    · have e3 : A.lt 0 zr = false := by rw [hA.lt]; exact decide_eq_false hc0
      have hcut2 : rest = cut := by
        symm
        rw [hcut, cutC, if_neg fun q => hc0 ?_]
        omega
      subst hcut2
      clear hcut
      cases b1
      all_goals
        cbv
        repeat' first | with_reducible rfl | (simp only [e3]; cbv) | (simp only [e2]; cbv) | (simp only [e1]; cbv) | with_reducible refine And.intro ?_ ?_ | ((with_reducible intro hcc); first | (cases hcc; done) | skip) | ((with_reducible show goC _ _ _ _ _ _ _ _); cbv) | ((with_reducible show goOps _ _ _ _ _); cbv) | ((with_reducible show okWr _ _ = _); rfl) | ((with_reducible refine hA.slen rest _ _ _ _ fun z hz hb => ?_); (have e6 : z = zr := hz.trans hzr.symm); replace e6 := e6.symm; subst e6; cbv) | ((with_reducible refine hA.slen ls _ _ _ _ fun z hz hb => ?_); (have e6 : z = zl := hz.trans hzl.symm); replace e6 := e6.symm; subst e6; cbv) | ((with_reducible refine hA.ssl ls none _ _ ⟨?_, fun sl hsl => ?_⟩); rotate_left; (have e6 : sl = pre := (by rw [hsl, hpre]; simp)); replace e6 := e6.symm; subst e6; cbv) | ((with_reducible refine hA.ssl ls (some n) _ _ ⟨?_, fun sl hsl => ?_⟩); rotate_left; (have e6 : sl = rest := (by rw [hsl, hrest]; simp)); replace e6 := e6.symm; subst e6; cbv) | ((with_reducible refine callK_eq hA hP ?_ ?_ ?_ (Wks.refl _) (fun _ _ => h1)); exact rfl; exact rfl; cbv) | ((with_reducible refine callK_eq hA hP ?_ ?_ ?_ (Wks.refl _) (fun _ _ => h2)); exact rfl; exact rfl; cbv) | ((with_reducible show A.call _ _ _ _ false _ _ _ _); refine callK_no hA (.bool false) ?_; cbv) | ((with_reducible refine hA.fin_pl _ _ _ ?_); cbv) | ((with_reducible refine hA.slen _ _ _ _ _ fun z hz hb => ?_); cbv) | ((with_reducible refine hA.six _ _ _ fun z6 c hz6 hc hc2 => ?_); cbv) | ((with_reducible refine hA.ssl _ _ _ _ ⟨?_, fun sl hsl => ?_⟩); rotate_left; cbv) | ((with_reducible refine hA.gb0 true _ ?_); cbv) | ((with_reducible refine hA.gb0 false _ ?_); cbv) | ((with_reducible refine hA.gb _ _ fun vb hvb => ?_); cbv) | (simp only [hA.natLit, hA.natOf, hA.natCast]; cbv)
        all_goals try simp only [hA.add, hA.sub, hA.mul, hA.neg, hA.div, hA.mod, hA.mn, hA.mx, hA.eq, hA.lt, hA.le, hA.nat, hA.R, hA.lep, hA.ltp, hA.seq, inR, n_cast, Int.ofNat_eq_natCast, Option.getD_some, Option.getD_none] at *
        all_goals first
          | omega
          | (rw [hr2]; rfl)
          | (rw [hr2]; simp_all; done)
          | (rw [hr2]; done)
          | (have := hb trivial trivial trivial; omega)
          | (simp only [Option.getD_some, Option.getD_none]; omega)
          | (trace_state; fail)
  · have hr2 : r = false := by rw [hr, sBlock, decide_eq_false hn, Bool.false_and]
    clear hr
    by_cases h0 : n < 0
    · have e1 : A.lt n 0 = true := by rw [hA.lt]; exact decide_eq_true h0
      cbv
      repeat' first | with_reducible rfl | (simp only [e1]; cbv) | with_reducible refine And.intro ?_ ?_ | ((with_reducible intro hcc); first | (cases hcc; done) | skip) | ((with_reducible show goC _ _ _ _ _ _ _ _); cbv) | ((with_reducible show goOps _ _ _ _ _); cbv) | ((with_reducible show okWr _ _ = _); rfl) | ((with_reducible refine hA.fin_pl _ _ _ ?_); cbv) | ((with_reducible refine hA.slen _ _ _ _ _ fun z hz hb => ?_); cbv) | ((with_reducible refine hA.six _ _ _ fun z6 c hz6 hc hc2 => ?_); cbv) | ((with_reducible refine hA.ssl _ _ _ _ ⟨?_, fun sl hsl => ?_⟩); rotate_left; cbv) | ((with_reducible refine hA.gb0 true _ ?_); cbv) | ((with_reducible refine hA.gb0 false _ ?_); cbv) | ((with_reducible refine hA.gb _ _ fun vb hvb => ?_); cbv) | (simp only [hA.natLit, hA.natOf, hA.natCast]; cbv)
      all_goals try simp only [hA.add, hA.sub, hA.mul, hA.neg, hA.div, hA.mod, hA.mn, hA.mx, hA.eq, hA.lt, hA.le, hA.nat, hA.R, hA.lep, hA.ltp, hA.seq, inR, n_cast, Int.ofNat_eq_natCast, Option.getD_some, Option.getD_none] at *
      all_goals first
        | (rw [hr2]; done)
        | omega
        | (trace_state; fail)
    · have e1 : A.lt n 0 = false := by rw [hA.lt]; exact decide_eq_false h0
      have e2 : A.lt zl n = true := by rw [hA.lt]; exact decide_eq_true (by omega)
      cbv
      repeat' first | with_reducible rfl | (simp only [e2]; cbv) | (simp only [e1]; cbv) | with_reducible refine And.intro ?_ ?_ | ((with_reducible intro hcc); first | (cases hcc; done) | skip) | ((with_reducible show goC _ _ _ _ _ _ _ _); cbv) | ((with_reducible show goOps _ _ _ _ _); cbv) | ((with_reducible show okWr _ _ = _); rfl) | ((with_reducible refine hA.slen ls _ _ _ _ fun z hz hb => ?_); (have e6 : z = zl := hz.trans hzl.symm); replace e6 := e6.symm; subst e6; cbv) | ((with_reducible refine hA.fin_pl _ _ _ ?_); cbv) | ((with_reducible refine hA.slen _ _ _ _ _ fun z hz hb => ?_); cbv) | ((with_reducible refine hA.six _ _ _ fun z6 c hz6 hc hc2 => ?_); cbv) | ((with_reducible refine hA.ssl _ _ _ _ ⟨?_, fun sl hsl => ?_⟩); rotate_left; cbv) | ((with_reducible refine hA.gb0 true _ ?_); cbv) | ((with_reducible refine hA.gb0 false _ ?_); cbv) | ((with_reducible refine hA.gb _ _ fun vb hvb => ?_); cbv) | (simp only [hA.natLit, hA.natOf, hA.natCast]; cbv)
      all_goals try simp only [hA.add, hA.sub, hA.mul, hA.neg, hA.div, hA.mod, hA.mn, hA.mx, hA.eq, hA.lt, hA.le, hA.nat, hA.R, hA.lep, hA.ltp, hA.seq, inR, n_cast, Int.ofNat_eq_natCast, Option.getD_some, Option.getD_none] at *
      all_goals first
        | (rw [hr2]; done)
        | omega
        | (trace_state; fail))
end Go.Proofs.Ytfplalbognalkaa.Ab
/- Kinds of a node's kids, written and asked. -/
namespace Go.Proofs.Ytfplalbognalkaa.Ab
open Go
theorem node_at {ns : List Nd} {es : List (List E)} (he : es = ns.map ndr) {n : Int} (h : 0 ≤ n ∧ n < es.length) : ∃ (K N M : Int) (S T : List UInt8) (Ks : List Int) (x : List (List E)), ns.getD n.toNat default = ⟨K, N, M, S, T, Ks⟩ ∧ x = Ks.map ir ∧ es.getD n.toNat [] = [E.int K, E.int N, E.int M, E.str S, E.str T, E.sl x] := by
  obtain ⟨⟨K, N, M, S, T, Ks⟩, e1, q1⟩ := row_at he h
  exact ⟨K, N, M, S, T, Ks, _, by simp [List.getD, q1], rfl, e1⟩
theorem getI {l : List Int} {j : Nat} {p : Int} (h : l[j]? = some p) : p ∈ l := List.mem_of_getElem? h
theorem take_succ' {α : Type} {l : List α} {j : Nat} {p : α} (h : l[j]? = some p) : l.take (j + 1) = l.take j ++ [p] := by rw [List.take_add_one, h]; rfl
set_option maxRecDepth 100000 in
set_option maxHeartbeats 1000000 in
theorem ok113 (ns : List Nd) (es : List (List E)) (he : es = ns.map ndr) (i : Int) (hi : 0 ≤ i ∧ i < es.length) (hk : ∀ k ∈ kidsAt ns i.toNat, 0 ≤ k ∧ k < es.length) (hkl : (kidsAt ns i.toNat).length ≤ 1048576) :
    Plain Try.prog 113 [.e (.sl es), .int i] (.str (((kidsAt ns i.toNat).map (kAt ns)).map letr)) := okOf mixed p113 fun A P hA hP => (by
  obtain ⟨K, N, M, S, T, Ks, x, e0, hx, e1⟩ := node_at he hi
  have hks : kidsAt ns i.toNat = Ks := by rw [kidsAt, e0]
  rw [hks] at hk hkl ⊢
  have hxl : x.length = Ks.length := by rw [hx]; simp
  obtain ⟨r, hr⟩ : ∃ r, r = (Ks.map (kAt ns)).map letr := ⟨_, rfl⟩
  have hrl : r.length = Ks.length := by rw [hr]; simp
  rw [← hr]
  cbv
  repeat' first | with_reducible rfl | with_reducible refine And.intro ?_ ?_ | ((with_reducible intro hcc); first | (cases hcc; done) | skip) | ((with_reducible show goC _ _ _ _ _ _ _ _); cbv) | ((with_reducible show goOps _ _ _ _ _); cbv) | ((with_reducible show okWr _ _ = _); rfl) | ((with_reducible refine hA.fin_pl _ _ _ ?_); cbv) | ((with_reducible refine hA.len _ _ _ _ _ fun z hz hb => ?_); cbv) | ((with_reducible refine hA.off _ _ _ _ fun b hb => ?_); cbv) | ((with_reducible refine hA.plus _ _ _ fun b hb => ?_); cbv) | ((with_reducible refine hA.sapp _ _ _ ⟨?_, fun sl hsl => ?_⟩); rotate_left; cbv) | (simp only [hA.natLit, hA.natOf, hA.natCast]; cbv)
  all_goals try simp only [hA.add, hA.sub, hA.mul, hA.neg, hA.div, hA.mod, hA.mn, hA.mx, hA.eq, hA.lt, hA.le, hA.nat, hA.R, hA.lep, hA.ltp, hA.seq, inR, n_cast, Int.ofNat_eq_natCast, Option.getD_some, Option.getD_none] at *
  refine hA.loopI (fun m s => ∃ (j : Int) (o : List UInt8), 0 ≤ j ∧ m + j = x.length ∧ o = r.take j.toNat ∧ s = ⟨[(6, .int j), (5, .str o), (0, .e (.sl es)), (1, .int i)], []⟩) x.length _
    (Weak.keep (env' := [(6, .int 0), (5, .str []), (0, .e (.sl es)), (1, .int i)]) ⟨rfl, rfl, rfl, rfl, trivial⟩) ⟨0, [], by omega, by omega, rfl, rfl⟩ ?_
  rintro m s K' ⟨j, o, j0, j1, ho, rfl⟩ hK
  have hol : o.length = j.toNat := by rw [ho, List.length_take]; omega
  by_cases hj : (0 : Int) ≤ j ∧ j < x.length
  · obtain ⟨k, e2, q2⟩ := int_at hx hj
    obtain ⟨k0, k1⟩ := hk k (getI q2)
    obtain ⟨K2, N2, M2, S2, T2, Ks2, x2, e3, hx2, e4⟩ := node_at he ⟨k0, k1⟩
    have hkA : kAt ns k = K2 := by rw [kAt, e3]
    have hq : r[j.toNat]? = some (letr K2) := by rw [hr, List.getElem?_map, List.getElem?_map, q2, ← hkA]; rfl
    have hnx := take_succ' hq
    rw [← ho] at hnx
    obtain ⟨bs, hbs⟩ : ∃ b, b = isSc K2 := ⟨_, rfl⟩
    obtain ⟨bq, hbq⟩ : ∃ b, b = isQu K2 := ⟨_, rfl⟩
    have h306 := ok162 K2
    have h231 := ok66 K2
    rw [← hbs] at h306
    rw [← hbq] at h231
    have hK2 : ∀ (o' : List UInt8) (env : List (Nat × D)), o' = o ++ [letr K2] → subL [(6, .int (j + 1)), (5, .str o'), (0, .e (.sl es)), (1, .int i)] env → K' ⟨env, []⟩ := fun o' env g1 g2 =>
      hK _ (m - 1) _ (by omega) (Weak.keep g2) ⟨j + 1, o', by omega, by omega, by rw [g1, show (j + 1).toNat = j.toNat + 1 by omega, hnx], rfl⟩
    have l1 : bs = true → letr K2 = 115 := fun e => by rw [hbs, isSc, decide_eq_true_eq] at e; rw [letr, if_pos e]
    have l2 : bs = false → K2 = 5 → letr K2 = 102 := fun e e' => by subst e'; rfl
    have l3 : bs = false → K2 ≠ 5 → bq = true → letr K2 = 113 := fun e e' e2 => by
      rw [hbs, isSc, decide_eq_false_iff_not] at e
      rw [hbq, isQu, decide_eq_true_eq] at e2
      rw [letr, if_neg e, if_neg e', if_pos e2]
    have l4 : bs = false → K2 ≠ 5 → bq = false → letr K2 = 99 := fun e e' e2 => by
      rw [hbs, isSc, decide_eq_false_iff_not] at e
      rw [hbq, isQu, decide_eq_false_iff_not] at e2
      rw [letr, if_neg e, if_neg e', if_neg e2]
    clear hK hbs hbq hnx hq hr ho hkA e3 hx2
    obtain ⟨L, hL⟩ : ∃ L, L = letr K2 := ⟨_, rfl⟩
    rw [← hL] at *
    cbv
    repeat' first | with_reducible rfl | with_reducible refine And.intro ?_ ?_ | ((with_reducible intro hcc); first | (cases hcc; done) | skip) | ((with_reducible show goC _ _ _ _ _ _ _ _); cbv) | ((with_reducible show goOps _ _ _ _ _); cbv) | ((with_reducible show okWr _ _ = _); rfl) | ((with_reducible refine callK_eq hA hP ?_ ?_ ?_ (Wks.refl _) (fun _ _ => h306)); exact rfl; exact rfl; cbv) | ((with_reducible refine callK_eq hA hP ?_ ?_ ?_ (Wks.refl _) (fun _ _ => h231)); exact rfl; exact rfl; cbv) | ((with_reducible refine hA.row x _ _ ⟨hj, fun row hrow => ?_⟩); rw [e2] at hrow; subst hrow; cbv) | ((with_reducible refine hA.row es i _ ⟨hi, fun row hrow => ?_⟩); rw [e1] at hrow; subst hrow; cbv) | ((with_reducible refine hA.row es k _ ⟨⟨k0, k1⟩, fun row hrow => ?_⟩); rw [e4] at hrow; subst hrow; cbv) | ((with_reducible refine hA.fin_pl _ _ _ ?_); cbv) | ((with_reducible refine hA.len _ _ _ _ _ fun z hz hb => ?_); cbv) | ((with_reducible refine hA.off _ _ _ _ fun b hb => ?_); cbv) | ((with_reducible refine hA.plus _ _ _ fun b hb => ?_); cbv) | ((with_reducible refine hA.sapp _ _ _ ⟨?_, fun sl hsl => ?_⟩); rotate_left; cbv) | (simp only [hA.natLit, hA.natOf, hA.natCast]; cbv)
    all_goals try simp only [hA.add, hA.sub, hA.mul, hA.neg, hA.div, hA.mod, hA.mn, hA.mx, hA.eq, hA.lt, hA.le, hA.nat, hA.R, hA.lep, hA.ltp, hA.seq, inR, n_cast, Int.ofNat_eq_natCast, Option.getD_some, Option.getD_none] at *
    all_goals first
      | omega
      | (simp only [List.length_cons, List.length_nil]; omega)
      | exact hK2 _ _ (by rw [hsl]; congr 2; first | exact (l1 (by assumption)).symm | exact (l2 (by assumption) (of_decide_eq_true (by assumption))).symm | exact (l3 (by assumption) (of_decide_eq_false (by assumption)) (by assumption)).symm | exact (l4 (by assumption) (of_decide_eq_false (by assumption)) (by assumption)).symm) ⟨rfl, rfl, rfl, rfl, trivial⟩
      | (exfalso; clear hK2; simp only [decide_eq_true_eq, decide_eq_false_iff_not] at *; omega)
      | (trace_state; fail)
  · have hor : o = r := by rw [ho]; exact List.take_of_length_le (by omega)
    clear hK ho hr
    cbv
    repeat' first | with_reducible rfl | with_reducible refine And.intro ?_ ?_ | ((with_reducible intro hcc); first | (cases hcc; done) | skip) | ((with_reducible show goC _ _ _ _ _ _ _ _); cbv) | ((with_reducible show goOps _ _ _ _ _); cbv) | ((with_reducible show okWr _ _ = _); rfl) | ((with_reducible refine hA.row es i _ ⟨hi, fun row hrow => ?_⟩); rw [e1] at hrow; subst hrow; cbv) | ((with_reducible refine hA.row x _ _ ?_); exfalso; simp only [hA.lt, hA.sub, decide_eq_true_eq, decide_eq_false_iff_not, n_cast] at *; omega) | ((with_reducible refine hA.fin_pl _ _ _ ?_); cbv) | ((with_reducible refine hA.len _ _ _ _ _ fun z hz hb => ?_); cbv) | ((with_reducible refine hA.off _ _ _ _ fun b hb => ?_); cbv) | ((with_reducible refine hA.plus _ _ _ fun b hb => ?_); cbv) | ((with_reducible refine hA.sapp _ _ _ ⟨?_, fun sl hsl => ?_⟩); rotate_left; cbv) | (simp only [hA.natLit, hA.natOf, hA.natCast]; cbv)
    all_goals try simp only [hA.add, hA.sub, hA.mul, hA.neg, hA.div, hA.mod, hA.mn, hA.mx, hA.eq, hA.lt, hA.le, hA.nat, hA.R, hA.lep, hA.ltp, hA.seq, inR, n_cast, Int.ofNat_eq_natCast, Option.getD_some, Option.getD_none] at *
    all_goals first
      | omega
      | (rw [hor]; done)
      | (trace_state; fail))
end Go.Proofs.Ytfplalbognalkaa.Ab
/- The kids of a block, by the program. -/
namespace Go.Proofs.Ytfplalbognalkaa.Ab
open Go
theorem rest_iff : ∀ {l : List Int}, restOk l = true ↔ ∀ (i : Nat) (k : Int), l[i]? = some k → k = 5 ∨ (i + 1 = l.length ∧ isCo k = true)
  | [] => by simp [restOk]
  | [a] => by
    simp only [restOk, Bool.or_eq_true, decide_eq_true_eq]
    constructor
    · intro h i k hk
      cases i with
      | zero => simp at hk; subst hk; rcases h with h | h
                · exact .inl h
                · exact .inr ⟨rfl, h⟩
      | succ i => simp at hk
    · intro h
      rcases h 0 a rfl with h | h
      · exact .inl h
      · exact .inr h.2
  | a :: b :: r => by
    have ih := rest_iff (l := b :: r)
    have e : restOk (a :: b :: r) = (decide (a = 5) && restOk (b :: r)) := rfl
    rw [e, Bool.and_eq_true, ih, decide_eq_true_eq]
    constructor
    · rintro ⟨h1, h2⟩ i k hk
      cases i with
      | zero => simp at hk; subst hk; exact .inl h1
      | succ i =>
        rcases h2 i k (by simpa using hk) with h | h
        · exact .inl h
        · exact .inr ⟨by simp at h ⊢; omega, h.2⟩
    · intro h
      refine ⟨?_, fun i k hk => ?_⟩
      · rcases h 0 a rfl with h | h
        · exact h
        · simp at h
      · rcases h (i + 1) k (by simpa using hk) with h | h
        · exact .inl h
        · exact .inr ⟨by simp at h ⊢; omega, h.2⟩
theorem allLen_ir (l : List Int) : allLen 1 (l.map ir) := allLen_iff.2 fun e he => by obtain ⟨p, _, rfl⟩ := List.mem_map.1 he; rfl
set_option maxRecDepth 100000 in
set_option maxHeartbeats 2000000 in
theorem ok120 (K1 N1 M1 : Int) (S1 T1 : List UInt8) (x1 : List (List E)) (ks : List Int) (x : List (List E)) (hx : x = ks.map ir) (hxn : x.length ≤ 1048576) : Plain Try.prog 120 [.agg [.int K1, .int N1, .int M1, .str S1, .str T1, .e (.sl x1)], .e (.sl x)] (.bool (blockP N1 ks)) := okOf mixed p120 fun A P hA hP => (by
  have hxl : x.length = ks.length := by rw [hx]; simp
  obtain ⟨r, hr⟩ : ∃ r, r = blockP N1 ks := ⟨_, rfl⟩
  rw [← hr]
  obtain ⟨zx, hzx⟩ : ∃ z : Int, z = x.length := ⟨_, rfl⟩
  have hal : allLen 1 x := by rw [hx]; exact allLen_ir ks
  by_cases hn : 0 ≤ N1 ∧ N1 < x.length
  · have hn' : 0 ≤ N1 ∧ N1 < ks.length := by omega
    obtain ⟨p1, hp1⟩ : ∃ p, p = ks.take N1.toNat := ⟨_, rfl⟩
    obtain ⟨p2, hp2⟩ : ∃ p, p = ks.drop N1.toNat := ⟨_, rfl⟩
    have hr2 : r = (p1.all isSc && (decide (p2.getD 0 0 = 5) && restOk p2)) := by
      have e9 : (ks.drop N1.toNat).getD 0 0 = ks.getD N1.toNat 0 := by simp [List.getD]
      rw [hr, blockP, decide_eq_true hn', Bool.true_and, hp1, hp2, e9]
    have f1 : ∀ (i : Nat) (k : Int), p1[i]? = some k → isSc k = false → r = false := fun i k h1 h2 => by
      have : p1.all isSc = false := by rw [List.all_eq_false]; exact ⟨k, getI h1, by simp [h2]⟩
      rw [hr2, this, Bool.false_and]
    have f2 : p2.getD 0 0 ≠ 5 → r = false := fun h => by rw [hr2, decide_eq_false h]; simp
    have f3 : ∀ (i : Nat) (k : Int), p2[i]? = some k → k ≠ 5 → (i + 1 ≠ p2.length ∨ isCo k = false) → r = false := fun i k h1 h2 h3 => by
      have : restOk p2 = false := by
        rw [Bool.eq_false_iff]
        intro h
        rcases rest_iff.1 h i k h1 with h | h
        · exact h2 h
        · rcases h3 with h3 | h3
          · exact h3 h.1
          · rw [h.2] at h3; cases h3
      rw [hr2, this]; simp
    have f4 : (∀ (i : Nat) (k : Int), p1[i]? = some k → isSc k = true) → p2.getD 0 0 = 5 → (∀ (i : Nat) (k : Int), p2[i]? = some k → k = 5 ∨ (i + 1 = p2.length ∧ isCo k = true)) → r = true := fun h1 h2 h3 => by
      have e1 : p1.all isSc = true := by
        rw [List.all_eq_true]
        intro k hk
        obtain ⟨i, hi, rfl⟩ := List.getElem_of_mem hk
        exact h1 i _ (by simp [hi])
      rw [hr2, e1, decide_eq_true h2, rest_iff.2 h3]; rfl
    obtain ⟨y1, hy1⟩ : ∃ y, y = p1.map ir := ⟨_, rfl⟩
    obtain ⟨y2, hy2⟩ : ∃ y, y = p2.map ir := ⟨_, rfl⟩
    have hl1 : (y1.length : Int) = N1 := by rw [hy1, hp1]; simp; omega
    have hl2 : y2.length = p2.length := by rw [hy2]; simp
    have hl2' : (y2.length : Int) = x.length - N1 := by rw [hl2, hp2]; simp; omega
    have hx1 : x.take N1.toNat = y1 := by rw [hy1, hp1, hx, List.map_take]
    have hx2 : x.drop N1.toNat = y2 := by rw [hy2, hp2, hx, List.map_drop]
    have hy20 : (0 : Int) ≤ 0 ∧ (0 : Int) < y2.length := ⟨Int.le_refl 0, by omega⟩
    obtain ⟨k0, e0, q0⟩ := int_at hy2 (n := 0) hy20
    have hk0 : p2.getD 0 0 = k0 := by
      have : p2[0]? = some k0 := q0
      simp [List.getD, this]
    rw [hk0] at f2 f4
    have e1 : A.lt N1 0 = false := by rw [hA.lt]; exact decide_eq_false (by omega)
    have e2 : A.le zx N1 = false := by rw [hA.le]; exact decide_eq_false (by omega)
    obtain ⟨zr, hzr⟩ : ∃ z : Int, z = y2.length := ⟨_, rfl⟩
    have e3 : ∀ w : List (List E), w = (x.take ((some N1).getD (x.length : Int)).toNat).drop ((none : Option Int).getD 0).toNat → w = y1 := fun w h => h.trans hx1
    have e4 : ∀ w : List (List E), w = (x.take ((none : Option Int).getD (x.length : Int)).toNat).drop ((some N1).getD 0).toNat → w = y2 := fun w h => by
      rw [h]
      simp only [Option.getD_none, Option.getD_some, Int.toNat_natCast, List.take_length]
      exact hx2
    clear hr hr2
    cbv
    repeat' first | with_reducible rfl | (simp only [e2]; cbv) | (simp only [e1]; cbv) | with_reducible refine And.intro ?_ ?_ | ((with_reducible intro hcc); first | (cases hcc; done) | skip) | ((with_reducible show goC _ _ _ _ _ _ _ _); cbv) | ((with_reducible show goOps _ _ _ _ _); cbv) | ((with_reducible show okWr _ _ = _); rfl) | ((with_reducible refine hA.len x _ _ _ _ fun z hz hb => ?_); (have e6 := hzx.trans hz.symm); subst e6; cbv) | ((with_reducible refine hA.slc x _ none _ _ ⟨?_, fun zs hzs => ?_⟩); rotate_left; (have e6 := (e3 zs hzs).symm); subst e6; cbv) | ((with_reducible refine hA.fin_pl _ _ _ ?_); cbv) | ((with_reducible refine hA.len _ _ _ _ _ fun z hz hb => ?_); cbv) | ((with_reducible refine hA.off _ _ _ _ fun b hb => ?_); cbv) | ((with_reducible refine hA.plus _ _ _ fun b hb => ?_); cbv) | ((with_reducible refine hA.slc _ _ _ _ _ ⟨?_, fun zs hzs => ?_⟩); rotate_left; cbv) | ((with_reducible refine hA.vsl _ _ _ _ ⟨?_, fun m hm => ?_⟩); rotate_left; cbv) | ((with_reducible refine hA.sapp _ _ _ ⟨?_, fun sl hsl => ?_⟩); rotate_left; cbv) | ((with_reducible refine hA.gb0 true _ ?_); cbv) | ((with_reducible refine hA.gb0 false _ ?_); cbv) | ((with_reducible refine hA.gb _ _ fun vb hvb => ?_); cbv) | (simp only [hA.natLit, hA.natOf, hA.natCast]; cbv)
    all_goals try simp only [hA.add, hA.sub, hA.mul, hA.neg, hA.div, hA.mod, hA.mn, hA.mx, hA.eq, hA.lt, hA.le, hA.nat, hA.R, hA.lep, hA.ltp, hA.seq, inR, n_cast, Int.ofNat_eq_natCast, Option.getD_some, Option.getD_none] at *
    all_goals try first
      | omega
      | (refine ⟨hal, ?_⟩; simp only [Option.getD_none, Option.getD_some]; omega)
    refine hA.loopI (fun m s => ∃ (j : Int), 0 ≤ j ∧ m + j = y1.length ∧ (∀ (i : Nat) (k : Int), (i : Int) < j → p1[i]? = some k → isSc k = true) ∧ s = ⟨[(25, .int j), (24, .int z), (23, .e (.sl y1)), (1, .e (.sl x)), (2, .ref 0 0), (4, .bool false)], [.box [.int K1, .int N1, .int M1, .str S1, .str T1, .e (.sl x1)]]⟩) y1.length _
      (Weak.keep (env' := [(25, .int 0), (24, .int z), (23, .e (.sl y1)), (1, .e (.sl x)), (2, .ref 0 0), (4, .bool false)]) ⟨rfl, rfl, rfl, rfl, rfl, rfl, trivial⟩) ⟨0, by omega, by omega, (fun i k h => by omega), rfl⟩ ?_
    rintro m s K' ⟨j, j0, j1, j2, rfl⟩ hK
    by_cases hj : (0 : Int) ≤ j ∧ j < y1.length
    · obtain ⟨k, ek, qk⟩ := int_at hy1 hj
      have h275 := ok123 k
      obtain ⟨b, hb⟩ : ∃ b, b = isSc k := ⟨_, rfl⟩
      rw [← hb] at h275
      have hK2 : ∀ (env : List (Nat × D)), b = true → subL [(25, .int (j + 1)), (24, .int z), (23, .e (.sl y1)), (1, .e (.sl x)), (2, .ref 0 0), (4, .bool false)] env → K' ⟨env, [.box [.int K1, .int N1, .int M1, .str S1, .str T1, .e (.sl x1)]]⟩ := fun env g1 g2 =>
        hK _ (m - 1) _ (by omega) (Weak.keep g2) ⟨j + 1, by omega, by omega, (fun i k' h1 h2 => by
          by_cases hji : (i : Int) < j
          · exact j2 i k' hji h2
          · have : i = j.toNat := by omega
            rw [this, qk] at h2
            cases h2
            rw [← hb]; exact g1), rfl⟩
      have hf := f1 j.toNat k qk
      rw [← hb] at hf
      clear hK hb f1 f2 f3 f4 j2
      cases b
      all_goals
        cbv
        repeat' first | with_reducible rfl | with_reducible refine And.intro ?_ ?_ | ((with_reducible intro hcc); first | (cases hcc; done) | skip) | ((with_reducible show goC _ _ _ _ _ _ _ _); cbv) | ((with_reducible show goOps _ _ _ _ _); cbv) | ((with_reducible show okWr _ _ = _); rfl) | ((with_reducible refine callK_eq hA hP ?_ ?_ ?_ (Wks.refl _) (fun _ _ => h275)); exact rfl; exact rfl; cbv) | ((with_reducible refine hA.row y1 _ _ ⟨hj, fun row hrow => ?_⟩); rw [ek] at hrow; subst hrow; cbv) | ((with_reducible refine hA.fin_pl _ _ _ ?_); cbv) | ((with_reducible refine hA.len _ _ _ _ _ fun z hz hb => ?_); cbv) | ((with_reducible refine hA.off _ _ _ _ fun b hb => ?_); cbv) | ((with_reducible refine hA.plus _ _ _ fun b hb => ?_); cbv) | ((with_reducible refine hA.slc _ _ _ _ _ ⟨?_, fun zs hzs => ?_⟩); rotate_left; cbv) | ((with_reducible refine hA.vsl _ _ _ _ ⟨?_, fun m hm => ?_⟩); rotate_left; cbv) | ((with_reducible refine hA.sapp _ _ _ ⟨?_, fun sl hsl => ?_⟩); rotate_left; cbv) | ((with_reducible refine hA.gb0 true _ ?_); cbv) | ((with_reducible refine hA.gb0 false _ ?_); cbv) | ((with_reducible refine hA.gb _ _ fun vb hvb => ?_); cbv) | (simp only [hA.natLit, hA.natOf, hA.natCast]; cbv)
        all_goals try simp only [hA.add, hA.sub, hA.mul, hA.neg, hA.div, hA.mod, hA.mn, hA.mx, hA.eq, hA.lt, hA.le, hA.nat, hA.R, hA.lep, hA.ltp, hA.seq, inR, n_cast, Int.ofNat_eq_natCast, Option.getD_some, Option.getD_none] at *
        all_goals first
          | omega
          | (rw [hf (by first | exact rfl | exact trivial)]; done)
          | exact hK2 _ (by first | exact rfl | exact trivial) ⟨rfl, rfl, rfl, rfl, rfl, rfl, trivial⟩
          | (exfalso; clear hK2 hf; simp only [decide_eq_true_eq, decide_eq_false_iff_not] at *; omega)
          | (trace_state; fail)
    · have j3 : ∀ (i : Nat) (k : Int), p1[i]? = some k → isSc k = true := fun i k h => j2 i k (by
        have := (List.getElem?_eq_some_iff.1 h).1
        have : y1.length = p1.length := by rw [hy1]; simp
        omega) h
      have f4 := f4 j3
      clear hK f1 j2 j3
      by_cases hk5 : k0 = 5
      case neg =>
        have e5 : A.eq k0 5 = false := by rw [hA.eq]; exact decide_eq_false hk5
        have hf := f2 hk5
        clear f2 f3 f4
        cbv
        repeat' first | with_reducible rfl | (simp only [e5]; cbv) | with_reducible refine And.intro ?_ ?_ | ((with_reducible intro hcc); first | (cases hcc; done) | skip) | ((with_reducible show goC _ _ _ _ _ _ _ _); cbv) | ((with_reducible show goOps _ _ _ _ _); cbv) | ((with_reducible show okWr _ _ = _); rfl) | (exfalso; simp only [hA.lt, hA.sub, decide_eq_true_eq, decide_eq_false_iff_not, n_cast] at *; omega) | ((with_reducible refine hA.slc x _ _ none _ ⟨?_, fun zs hzs => ?_⟩); rotate_left; (have e6 := (e4 zs hzs).symm); subst e6; cbv) | ((with_reducible refine hA.row y2 _ _ ⟨hy20, fun row hrow => ?_⟩); have hrow := hrow.trans e0; subst hrow; cbv) | ((with_reducible refine hA.fin_pl _ _ _ ?_); cbv) | ((with_reducible refine hA.len _ _ _ _ _ fun z hz hb => ?_); cbv) | ((with_reducible refine hA.off _ _ _ _ fun b hb => ?_); cbv) | ((with_reducible refine hA.plus _ _ _ fun b hb => ?_); cbv) | ((with_reducible refine hA.slc _ _ _ _ _ ⟨?_, fun zs hzs => ?_⟩); rotate_left; cbv) | ((with_reducible refine hA.vsl _ _ _ _ ⟨?_, fun m hm => ?_⟩); rotate_left; cbv) | ((with_reducible refine hA.sapp _ _ _ ⟨?_, fun sl hsl => ?_⟩); rotate_left; cbv) | ((with_reducible refine hA.gb0 true _ ?_); cbv) | ((with_reducible refine hA.gb0 false _ ?_); cbv) | ((with_reducible refine hA.gb _ _ fun vb hvb => ?_); cbv) | (simp only [hA.natLit, hA.natOf, hA.natCast]; cbv)
        all_goals try simp only [hA.add, hA.sub, hA.mul, hA.neg, hA.div, hA.mod, hA.mn, hA.mx, hA.eq, hA.lt, hA.le, hA.nat, hA.R, hA.lep, hA.ltp, hA.seq, inR, n_cast, Int.ofNat_eq_natCast, Option.getD_some, Option.getD_none] at *
        all_goals first
          | omega
          | (refine ⟨hal, ?_⟩; simp only [Option.getD_none, Option.getD_some]; omega)
          | (rw [hf]; done)
          | (trace_state; fail)
      case pos =>
        have e5 : A.eq k0 5 = true := by rw [hA.eq]; exact decide_eq_true hk5
        have f4 := f4 hk5
        clear f2
        cbv
        repeat' first | with_reducible rfl | (simp only [e5]; cbv) | with_reducible refine And.intro ?_ ?_ | ((with_reducible intro hcc); first | (cases hcc; done) | skip) | ((with_reducible show goC _ _ _ _ _ _ _ _); cbv) | ((with_reducible show goOps _ _ _ _ _); cbv) | ((with_reducible show okWr _ _ = _); rfl) | (exfalso; simp only [hA.lt, hA.sub, decide_eq_true_eq, decide_eq_false_iff_not, n_cast] at *; omega) | ((with_reducible refine hA.slc x _ _ none _ ⟨?_, fun zs hzs => ?_⟩); rotate_left; (have e6 := (e4 zs hzs).symm); subst e6; cbv) | ((with_reducible refine hA.row y2 _ _ ⟨hy20, fun row hrow => ?_⟩); have hrow := hrow.trans e0; subst hrow; cbv) | ((with_reducible refine hA.len y2 _ _ _ _ fun z hz hb => ?_); (have e6 := hzr.trans hz.symm); subst e6; cbv) | ((with_reducible refine hA.fin_pl _ _ _ ?_); cbv) | ((with_reducible refine hA.len _ _ _ _ _ fun z hz hb => ?_); cbv) | ((with_reducible refine hA.off _ _ _ _ fun b hb => ?_); cbv) | ((with_reducible refine hA.plus _ _ _ fun b hb => ?_); cbv) | ((with_reducible refine hA.slc _ _ _ _ _ ⟨?_, fun zs hzs => ?_⟩); rotate_left; cbv) | ((with_reducible refine hA.vsl _ _ _ _ ⟨?_, fun m hm => ?_⟩); rotate_left; cbv) | ((with_reducible refine hA.sapp _ _ _ ⟨?_, fun sl hsl => ?_⟩); rotate_left; cbv) | ((with_reducible refine hA.gb0 true _ ?_); cbv) | ((with_reducible refine hA.gb0 false _ ?_); cbv) | ((with_reducible refine hA.gb _ _ fun vb hvb => ?_); cbv) | (simp only [hA.natLit, hA.natOf, hA.natCast]; cbv)
        all_goals try simp only [hA.add, hA.sub, hA.mul, hA.neg, hA.div, hA.mod, hA.mn, hA.mx, hA.eq, hA.lt, hA.le, hA.nat, hA.R, hA.lep, hA.ltp, hA.seq, inR, n_cast, Int.ofNat_eq_natCast, Option.getD_some, Option.getD_none] at *
        all_goals try first
          | omega
          | (refine ⟨hal, ?_⟩; simp only [Option.getD_none, Option.getD_some]; omega)
        refine hA.loopI (fun m s => ∃ (j : Int), 0 ≤ j ∧ m + j = y2.length ∧ (∀ (i : Nat) (k : Int), (i : Int) < j → p2[i]? = some k → k = 5 ∨ (i + 1 = p2.length ∧ isCo k = true)) ∧ s = ⟨[(43, .int j), (42, .int zr), (41, .e (.sl y2)), (7, .e (.sl y2)), (4, .bool false)], []⟩) y2.length _
          (Weak.gc (env' := [(43, .int 0), (42, .int zr), (41, .e (.sl y2)), (7, .e (.sl y2)), (4, .bool false)]) ⟨rfl, rfl, rfl, rfl, rfl, trivial⟩ rfl) ⟨0, by omega, by omega, (fun i k h => by omega), rfl⟩ ?_
        rintro m s K2 ⟨j, j0, j1, j2, rfl⟩ hK
        by_cases hj : (0 : Int) ≤ j ∧ j < y2.length
        · obtain ⟨k, ek, qk⟩ := int_at hy2 hj
          have h276 := ok124 k
          obtain ⟨b, hb⟩ : ∃ b, b = isCo k := ⟨_, rfl⟩
          rw [← hb] at h276
          have hK2 : ∀ (env : List (Nat × D)) (hp : List O), k = 5 ∨ (j + 1 = p2.length ∧ b = true) → subL [(43, .int (j + 1)), (42, .int zr), (41, .e (.sl y2)), (7, .e (.sl y2)), (4, .bool false)] env → K2 ⟨env, hp⟩ := fun env hp g1 g2 =>
            hK _ (m - 1) _ (by omega) (Weak.gc g2 rfl) ⟨j + 1, by omega, by omega, (fun i k' h1 h2 => by
              by_cases hji : (i : Int) < j
              · exact j2 i k' hji h2
              · have : i = j.toNat := by omega
                rw [this, qk] at h2
                cases h2
                rcases g1 with g1 | g1
                · exact .inl g1
                · exact .inr ⟨by omega, by rw [← hb]; exact g1.2⟩), rfl⟩
          have hf := f3 j.toNat k qk
          rw [← hb] at hf
          obtain ⟨z1, hz1⟩ : ∃ z, z = A.sub zr 1 := ⟨_, rfl⟩
          have hz2 : z1 = zr - 1 := by rw [hz1, hA.sub]
          clear hK hb f3 f4 j2
          by_cases hk6 : k = 5
          · have e7 : A.eq k 5 = true := by rw [hA.eq]; exact decide_eq_true hk6
            cbv
            repeat' first | with_reducible rfl | (simp only [e7]; cbv) | with_reducible refine And.intro ?_ ?_ | ((with_reducible intro hcc); first | (cases hcc; done) | skip) | ((with_reducible show goC _ _ _ _ _ _ _ _); cbv) | ((with_reducible show goOps _ _ _ _ _); cbv) | ((with_reducible show okWr _ _ = _); rfl) | ((with_reducible refine hA.row y2 _ _ ⟨hj, fun row hrow => ?_⟩); rw [ek] at hrow; subst hrow; cbv) | ((with_reducible show A.call _ _ _ _ false _ _ _ _); refine callK_no hA (.bool false) ?_; cbv) | ((with_reducible refine hA.fin_pl _ _ _ ?_); cbv) | ((with_reducible refine hA.len _ _ _ _ _ fun z hz hb => ?_); cbv) | ((with_reducible refine hA.off _ _ _ _ fun b hb => ?_); cbv) | ((with_reducible refine hA.plus _ _ _ fun b hb => ?_); cbv) | ((with_reducible refine hA.slc _ _ _ _ _ ⟨?_, fun zs hzs => ?_⟩); rotate_left; cbv) | ((with_reducible refine hA.vsl _ _ _ _ ⟨?_, fun m hm => ?_⟩); rotate_left; cbv) | ((with_reducible refine hA.sapp _ _ _ ⟨?_, fun sl hsl => ?_⟩); rotate_left; cbv) | ((with_reducible refine hA.gb0 true _ ?_); cbv) | ((with_reducible refine hA.gb0 false _ ?_); cbv) | ((with_reducible refine hA.gb _ _ fun vb hvb => ?_); cbv) | (simp only [hA.natLit, hA.natOf, hA.natCast]; cbv)
            all_goals try simp only [hA.add, hA.sub, hA.mul, hA.neg, hA.div, hA.mod, hA.mn, hA.mx, hA.eq, hA.lt, hA.le, hA.nat, hA.R, hA.lep, hA.ltp, hA.seq, inR, n_cast, Int.ofNat_eq_natCast, Option.getD_some, Option.getD_none] at *
            all_goals first
              | omega
              | exact hK2 _ _ (.inl hk6) ⟨rfl, rfl, rfl, rfl, rfl, trivial⟩
              | (exfalso; clear hK2 hf; simp only [decide_eq_true_eq, decide_eq_false_iff_not] at *; omega)
              | (trace_state; fail)
          · have e7 : A.eq k 5 = false := by rw [hA.eq]; exact decide_eq_false hk6
            have hf := hf hk6
            by_cases hlast : j = zr - 1
            · have e8 : A.eq j z1 = true := by rw [hA.eq]; exact decide_eq_true (by omega)
              cases b
              all_goals
                cbv
                repeat' first | with_reducible rfl | (simp only [e8]; cbv) | (simp only [← hz1]; cbv) | (simp only [e7]; cbv) | with_reducible refine And.intro ?_ ?_ | ((with_reducible intro hcc); first | (cases hcc; done) | skip) | ((with_reducible show goC _ _ _ _ _ _ _ _); cbv) | ((with_reducible show goOps _ _ _ _ _); cbv) | ((with_reducible show okWr _ _ = _); rfl) | ((with_reducible refine callK_eq hA hP ?_ ?_ ?_ (Wks.refl _) (fun _ _ => h276)); exact rfl; exact rfl; cbv) | ((with_reducible refine hA.len y2 _ _ _ _ fun z hz hb => ?_); (have e6 := hzr.trans hz.symm); subst e6; cbv) | ((with_reducible refine hA.row y2 _ _ ⟨hj, fun row hrow => ?_⟩); rw [ek] at hrow; subst hrow; cbv) | ((with_reducible refine hA.fin_pl _ _ _ ?_); cbv) | ((with_reducible refine hA.len _ _ _ _ _ fun z hz hb => ?_); cbv) | ((with_reducible refine hA.off _ _ _ _ fun b hb => ?_); cbv) | ((with_reducible refine hA.plus _ _ _ fun b hb => ?_); cbv) | ((with_reducible refine hA.slc _ _ _ _ _ ⟨?_, fun zs hzs => ?_⟩); rotate_left; cbv) | ((with_reducible refine hA.vsl _ _ _ _ ⟨?_, fun m hm => ?_⟩); rotate_left; cbv) | ((with_reducible refine hA.sapp _ _ _ ⟨?_, fun sl hsl => ?_⟩); rotate_left; cbv) | ((with_reducible refine hA.gb0 true _ ?_); cbv) | ((with_reducible refine hA.gb0 false _ ?_); cbv) | ((with_reducible refine hA.gb _ _ fun vb hvb => ?_); cbv) | (simp only [hA.natLit, hA.natOf, hA.natCast]; cbv)
                all_goals try simp only [hA.add, hA.sub, hA.mul, hA.neg, hA.div, hA.mod, hA.mn, hA.mx, hA.eq, hA.lt, hA.le, hA.nat, hA.R, hA.lep, hA.ltp, hA.seq, inR, n_cast, Int.ofNat_eq_natCast, Option.getD_some, Option.getD_none] at *
                all_goals first
                  | omega
                  | (rw [hf (.inr (by first | exact rfl | exact trivial))]; done)
                  | exact hK2 _ _ (.inr ⟨by omega, by first | exact rfl | exact trivial⟩) ⟨rfl, rfl, rfl, rfl, rfl, trivial⟩
                  | (exfalso; clear hK2 hf; simp only [decide_eq_true_eq, decide_eq_false_iff_not] at *; omega)
                  | (trace_state; fail)
            · have e8 : A.eq j z1 = false := by rw [hA.eq]; exact decide_eq_false (by omega)
              have hf := hf (.inl (by omega))
              cbv
              repeat' first | with_reducible rfl | (simp only [e8]; cbv) | (simp only [← hz1]; cbv) | (simp only [e7]; cbv) | with_reducible refine And.intro ?_ ?_ | ((with_reducible intro hcc); first | (cases hcc; done) | skip) | ((with_reducible show goC _ _ _ _ _ _ _ _); cbv) | ((with_reducible show goOps _ _ _ _ _); cbv) | ((with_reducible show okWr _ _ = _); rfl) | ((with_reducible refine callK_eq hA hP ?_ ?_ ?_ (Wks.refl _) (fun _ _ => h276)); exact rfl; exact rfl; cbv) | ((with_reducible refine hA.len y2 _ _ _ _ fun z hz hb => ?_); (have e6 := hzr.trans hz.symm); subst e6; cbv) | ((with_reducible refine hA.row y2 _ _ ⟨hj, fun row hrow => ?_⟩); rw [ek] at hrow; subst hrow; cbv) | ((with_reducible show A.call _ _ _ _ false _ _ _ _); refine callK_no hA (.bool false) ?_; cbv) | ((with_reducible refine hA.fin_pl _ _ _ ?_); cbv) | ((with_reducible refine hA.len _ _ _ _ _ fun z hz hb => ?_); cbv) | ((with_reducible refine hA.off _ _ _ _ fun b hb => ?_); cbv) | ((with_reducible refine hA.plus _ _ _ fun b hb => ?_); cbv) | ((with_reducible refine hA.slc _ _ _ _ _ ⟨?_, fun zs hzs => ?_⟩); rotate_left; cbv) | ((with_reducible refine hA.vsl _ _ _ _ ⟨?_, fun m hm => ?_⟩); rotate_left; cbv) | ((with_reducible refine hA.sapp _ _ _ ⟨?_, fun sl hsl => ?_⟩); rotate_left; cbv) | ((with_reducible refine hA.gb0 true _ ?_); cbv) | ((with_reducible refine hA.gb0 false _ ?_); cbv) | ((with_reducible refine hA.gb _ _ fun vb hvb => ?_); cbv) | (simp only [hA.natLit, hA.natOf, hA.natCast]; cbv)
              all_goals try simp only [hA.add, hA.sub, hA.mul, hA.neg, hA.div, hA.mod, hA.mn, hA.mx, hA.eq, hA.lt, hA.le, hA.nat, hA.R, hA.lep, hA.ltp, hA.seq, inR, n_cast, Int.ofNat_eq_natCast, Option.getD_some, Option.getD_none] at *
              all_goals first
                | omega
                | (rw [hf]; done)
                | (exfalso; clear hK2; simp only [decide_eq_true_eq, decide_eq_false_iff_not] at *; omega)
                | (trace_state; fail)
        · have hrt : r = true := f4 fun i k h => j2 i k (by
            have := (List.getElem?_eq_some_iff.1 h).1
            omega) h
          clear hK f3 f4 j2
          cbv
          repeat' first | with_reducible rfl | with_reducible refine And.intro ?_ ?_ | ((with_reducible intro hcc); first | (cases hcc; done) | skip) | ((with_reducible show goC _ _ _ _ _ _ _ _); cbv) | ((with_reducible show goOps _ _ _ _ _); cbv) | ((with_reducible show okWr _ _ = _); rfl) | (exfalso; simp only [hA.lt, hA.sub, decide_eq_true_eq, decide_eq_false_iff_not, n_cast] at *; omega) | ((with_reducible refine hA.fin_pl _ _ _ ?_); cbv) | ((with_reducible refine hA.len _ _ _ _ _ fun z hz hb => ?_); cbv) | ((with_reducible refine hA.off _ _ _ _ fun b hb => ?_); cbv) | ((with_reducible refine hA.plus _ _ _ fun b hb => ?_); cbv) | ((with_reducible refine hA.slc _ _ _ _ _ ⟨?_, fun zs hzs => ?_⟩); rotate_left; cbv) | ((with_reducible refine hA.vsl _ _ _ _ ⟨?_, fun m hm => ?_⟩); rotate_left; cbv) | ((with_reducible refine hA.sapp _ _ _ ⟨?_, fun sl hsl => ?_⟩); rotate_left; cbv) | ((with_reducible refine hA.gb0 true _ ?_); cbv) | ((with_reducible refine hA.gb0 false _ ?_); cbv) | ((with_reducible refine hA.gb _ _ fun vb hvb => ?_); cbv) | (simp only [hA.natLit, hA.natOf, hA.natCast]; cbv)
          all_goals try simp only [hA.add, hA.sub, hA.mul, hA.neg, hA.div, hA.mod, hA.mn, hA.mx, hA.eq, hA.lt, hA.le, hA.nat, hA.R, hA.lep, hA.ltp, hA.seq, inR, n_cast, Int.ofNat_eq_natCast, Option.getD_some, Option.getD_none] at *
          all_goals first
            | omega
            | (rw [hrt]; done)
            | (trace_state; fail)
  · have hr2 : r = false := by rw [hr, blockP, decide_eq_false (by omega), Bool.false_and]
    clear hr
    by_cases h0 : N1 < 0
    · have e1 : A.lt N1 0 = true := by rw [hA.lt]; exact decide_eq_true h0
      cbv
      repeat' first | with_reducible rfl | (simp only [e1]; cbv) | with_reducible refine And.intro ?_ ?_ | ((with_reducible intro hcc); first | (cases hcc; done) | skip) | ((with_reducible show goC _ _ _ _ _ _ _ _); cbv) | ((with_reducible show goOps _ _ _ _ _); cbv) | ((with_reducible show okWr _ _ = _); rfl) | ((with_reducible refine hA.fin_pl _ _ _ ?_); cbv) | ((with_reducible refine hA.len _ _ _ _ _ fun z hz hb => ?_); cbv) | ((with_reducible refine hA.off _ _ _ _ fun b hb => ?_); cbv) | ((with_reducible refine hA.plus _ _ _ fun b hb => ?_); cbv) | ((with_reducible refine hA.slc _ _ _ _ _ ⟨?_, fun zs hzs => ?_⟩); rotate_left; cbv) | ((with_reducible refine hA.vsl _ _ _ _ ⟨?_, fun m hm => ?_⟩); rotate_left; cbv) | ((with_reducible refine hA.sapp _ _ _ ⟨?_, fun sl hsl => ?_⟩); rotate_left; cbv) | ((with_reducible refine hA.gb0 true _ ?_); cbv) | ((with_reducible refine hA.gb0 false _ ?_); cbv) | ((with_reducible refine hA.gb _ _ fun vb hvb => ?_); cbv) | (simp only [hA.natLit, hA.natOf, hA.natCast]; cbv)
      all_goals try simp only [hA.add, hA.sub, hA.mul, hA.neg, hA.div, hA.mod, hA.mn, hA.mx, hA.eq, hA.lt, hA.le, hA.nat, hA.R, hA.lep, hA.ltp, hA.seq, inR, n_cast, Int.ofNat_eq_natCast, Option.getD_some, Option.getD_none] at *
      all_goals first
        | (rw [hr2]; done)
        | omega
        | (trace_state; fail)
    · have e1 : A.lt N1 0 = false := by rw [hA.lt]; exact decide_eq_false h0
      have e2 : A.le zx N1 = true := by rw [hA.le]; exact decide_eq_true (by omega)
      cbv
      repeat' first | with_reducible rfl | (simp only [e2]; cbv) | (simp only [e1]; cbv) | with_reducible refine And.intro ?_ ?_ | ((with_reducible intro hcc); first | (cases hcc; done) | skip) | ((with_reducible show goC _ _ _ _ _ _ _ _); cbv) | ((with_reducible show goOps _ _ _ _ _); cbv) | ((with_reducible show okWr _ _ = _); rfl) | ((with_reducible refine hA.len x _ _ _ _ fun z hz hb => ?_); (have e6 := hzx.trans hz.symm); subst e6; cbv) | ((with_reducible refine hA.fin_pl _ _ _ ?_); cbv) | ((with_reducible refine hA.len _ _ _ _ _ fun z hz hb => ?_); cbv) | ((with_reducible refine hA.off _ _ _ _ fun b hb => ?_); cbv) | ((with_reducible refine hA.plus _ _ _ fun b hb => ?_); cbv) | ((with_reducible refine hA.slc _ _ _ _ _ ⟨?_, fun zs hzs => ?_⟩); rotate_left; cbv) | ((with_reducible refine hA.vsl _ _ _ _ ⟨?_, fun m hm => ?_⟩); rotate_left; cbv) | ((with_reducible refine hA.sapp _ _ _ ⟨?_, fun sl hsl => ?_⟩); rotate_left; cbv) | ((with_reducible refine hA.gb0 true _ ?_); cbv) | ((with_reducible refine hA.gb0 false _ ?_); cbv) | ((with_reducible refine hA.gb _ _ fun vb hvb => ?_); cbv) | (simp only [hA.natLit, hA.natOf, hA.natCast]; cbv)
      all_goals try simp only [hA.add, hA.sub, hA.mul, hA.neg, hA.div, hA.mod, hA.mn, hA.mx, hA.eq, hA.lt, hA.le, hA.nat, hA.R, hA.lep, hA.ltp, hA.seq, inR, n_cast, Int.ofNat_eq_natCast, Option.getD_some, Option.getD_none] at *
      all_goals first
        | (rw [hr2]; done)
        | omega
        | (trace_state; fail))
end Go.Proofs.Ytfplalbognalkaa.Ab
/- A node's form, by the specification. -/
namespace Go.Proofs.Ytfplalbognalkaa.Ab
open Go
set_option maxRecDepth 100000 in
set_option maxHeartbeats 16000000 in
theorem ok64 (ns : List Nd) (es : List (List E)) (he : es = ns.map ndr) (i : Int) (hi : 0 ≤ i ∧ i < es.length) (hk : ∀ k ∈ kidsAt ns i.toNat, 0 ≤ k ∧ k < es.length) (hkl : (kidsAt ns i.toNat).length ≤ 1048576) :
    Plain Try.prog 64 [.e (.sl es), .int i] (.bool (nOk (ns.getD i.toNat default) ((kidsAt ns i.toNat).map (kAt ns)))) := okOf mixed p64 fun A P hA hP => (by
  have h267 := ok113 ns es he i hi hk hkl
  obtain ⟨K, N, M, S, T, Ks, x, e0, hx, e1⟩ := node_at he hi
  have hks : kidsAt ns i.toNat = Ks := by rw [kidsAt, e0]
  rw [hks] at hk hkl h267 ⊢
  rw [e0]
  have hxl : x.length = Ks.length := by rw [hx]; simp
  obtain ⟨ks, hkk⟩ : ∃ l, l = Ks.map (kAt ns) := ⟨_, rfl⟩
  rw [← hkk] at h267 ⊢
  obtain ⟨ls, hls⟩ : ∃ l, l = ks.map letr := ⟨_, rfl⟩
  rw [← hls] at h267
  obtain ⟨r, hr⟩ : ∃ r, r = nOk ⟨K, N, M, S, T, Ks⟩ ks := ⟨_, rfl⟩
  rw [← hr]
  have h268 := ok114 N
  obtain ⟨sh, hsh⟩ : ∃ b, b = shortB N := ⟨_, rfl⟩
  rw [← hsh] at h268
  have h66S := ok115 S
  obtain ⟨nS, hnS⟩ : ∃ b, b = nameB S := ⟨_, rfl⟩
  rw [← hnS] at h66S
  have h66T := ok115 T
  obtain ⟨nT, hnT⟩ : ∃ b, b = nameB T := ⟨_, rfl⟩
  rw [← hnT] at h66T
  have h269 := ok116 ls N
  obtain ⟨bP, hbP⟩ : ∃ b, b = sBlock ls N := ⟨_, rfl⟩
  rw [← hbP] at h269
  have h270 := ok117c ls 2
  obtain ⟨oc, hoc⟩ : ∃ b, b = onlyB ls 99 2 := ⟨_, rfl⟩
  rw [← hoc] at h270
  have hr2 : r = nOk ⟨K, N, M, S, T, Ks⟩ ks := hr
  unfold nOk preB nBody at hr2
  simp only [← hls, ← hsh, ← hnS, ← hnT, ← hbP, ← hoc, Bool.decide_and, Bool.decide_or, ne_eq, decide_not] at hr2
  obtain ⟨btS, hbtS⟩ : ∃ b, b = decide (S = []) := ⟨_, rfl⟩
  have vtS : A.seq S [] = btS := by rw [hA.seq, hbtS]
  obtain ⟨btT, hbtT⟩ : ∃ b, b = decide (T = []) := ⟨_, rfl⟩
  have vtT : A.seq T [] = btT := by rw [hA.seq, hbtT]
  obtain ⟨bM0, hbM0⟩ : ∃ b, b = decide (M = 0) := ⟨_, rfl⟩
  have vM0 : A.eq M 0 = bM0 := by rw [hA.eq, hbM0]
  obtain ⟨bM1, hbM1⟩ : ∃ b, b = decide (M = 1) := ⟨_, rfl⟩
  have vM1 : A.eq M 1 = bM1 := by rw [hA.eq, hbM1]
  obtain ⟨bN0, hbN0⟩ : ∃ b, b = decide (N = 0) := ⟨_, rfl⟩
  have vN0 : A.eq N 0 = bN0 := by rw [hA.eq, hbN0]
  obtain ⟨bN1, hbN1⟩ : ∃ b, b = decide (N = 1) := ⟨_, rfl⟩
  have vN1 : A.eq N 1 = bN1 := by rw [hA.eq, hbN1]
  obtain ⟨bN2, hbN2⟩ : ∃ b, b = decide (N = 2) := ⟨_, rfl⟩
  have vN2 : A.eq N 2 = bN2 := by rw [hA.eq, hbN2]
  obtain ⟨bn0, hbn0⟩ : ∃ b, b = decide (0 ≤ N) := ⟨_, rfl⟩
  have vn0 : A.le 0 N = bn0 := by rw [hA.le, hbn0]
  obtain ⟨bn1, hbn1⟩ : ∃ b, b = decide (1 ≤ N) := ⟨_, rfl⟩
  have vn1 : A.le 1 N = bn1 := by rw [hA.le, hbn1]
  obtain ⟨bl1, hbl1⟩ : ∃ b, b = decide (1 ≤ M) := ⟨_, rfl⟩
  have vl1 : A.le 1 M = bl1 := by rw [hA.le, hbl1]
  obtain ⟨bl4, hbl4⟩ : ∃ b, b = decide (M ≤ 4) := ⟨_, rfl⟩
  have vl4 : A.le M 4 = bl4 := by rw [hA.le, hbl4]
  obtain ⟨bl6, hbl6⟩ : ∃ b, b = decide (M ≤ 6) := ⟨_, rfl⟩
  have vl6 : A.le M 6 = bl6 := by rw [hA.le, hbl6]
  obtain ⟨bg1, hbg1⟩ : ∃ b, b = decide (1 < M) := ⟨_, rfl⟩
  have vg1 : A.lt 1 M = bg1 := by rw [hA.lt, hbg1]
  obtain ⟨bz0, hbz0⟩ : ∃ b, b = decide (ls = []) := ⟨_, rfl⟩
  have vz0 : A.seq ls [] = bz0 := by rw [hA.seq, hbz0]
  obtain ⟨bz1, hbz1⟩ : ∃ b, b = decide (ls = [115, 115]) := ⟨_, rfl⟩
  have vz1 : A.seq ls [115, 115] = bz1 := by rw [hA.seq, hbz1]
  obtain ⟨bz2, hbz2⟩ : ∃ b, b = decide (ls = [115]) := ⟨_, rfl⟩
  have vz2 : A.seq ls [115] = bz2 := by rw [hA.seq, hbz2]
  obtain ⟨bz3, hbz3⟩ : ∃ b, b = decide (ls = [113]) := ⟨_, rfl⟩
  have vz3 : A.seq ls [113] = bz3 := by rw [hA.seq, hbz3]
  obtain ⟨bz4, hbz4⟩ : ∃ b, b = decide (ls = [115, 113]) := ⟨_, rfl⟩
  have vz4 : A.seq ls [115, 113] = bz4 := by rw [hA.seq, hbz4]
  obtain ⟨bz5, hbz5⟩ : ∃ b, b = decide (ls = [99]) := ⟨_, rfl⟩
  have vz5 : A.seq ls [99] = bz5 := by rw [hA.seq, hbz5]
  simp only [← hbtS, ← hbtT, ← hbM0, ← hbM1, ← hbN0, ← hbN1, ← hbN2, ← hbn0, ← hbn1, ← hbl1, ← hbl4, ← hbl6, ← hbg1, ← hbz0, ← hbz1, ← hbz2, ← hbz3, ← hbz4, ← hbz5] at hr2
  clear hbtS hbtT hbM0 hbM1 hbN0 hbN1 hbN2 hbn0 hbn1 hbl1 hbl4 hbl6 hbg1 hbz0 hbz1 hbz2 hbz3 hbz4 hbz5 hsh hnS hnT hbP hoc hls hr
  have u1 := hA.eq K 1
  have u2 := hA.eq K 2
  have u3 := hA.eq K 3
  have u4 := hA.eq K 4
  have u5 := hA.eq K 5
  have u6 := hA.eq K 6
  have u7 := hA.eq K 7
  have u8 := hA.eq K 8
  have u9 := hA.eq K 9
  have u10 := hA.eq K 10
  have u11 := hA.eq K 11
  have u12 := hA.eq K 12
  have u13 := hA.eq K 13
  have u14 := hA.eq K 14
  have u15 := hA.eq K 15
  have hK : K = 1 ∨ K = 2 ∨ K = 3 ∨ K = 4 ∨ K = 5 ∨ K = 6 ∨ K = 7 ∨ K = 8 ∨ K = 9 ∨ K = 10 ∨ K = 11 ∨ K = 12 ∨ K = 13 ∨ K = 14 ∨ K = 15 ∨ (¬ K = 1 ∧ ¬ K = 2 ∧ ¬ K = 3 ∧ ¬ K = 4 ∧ ¬ K = 5 ∧ ¬ K = 6 ∧ ¬ K = 7 ∧ ¬ K = 8 ∧ ¬ K = 9 ∧ ¬ K = 10 ∧ ¬ K = 11 ∧ ¬ K = 12 ∧ ¬ K = 13 ∧ ¬ K = 14 ∧ ¬ K = 15) := by omega
  rcases hK with rfl | rfl | rfl | rfl | rfl | rfl | rfl | rfl | rfl | rfl | rfl | rfl | rfl | rfl | rfl | ⟨n1, n2, n3, n4, n5, n6, n7, n8, n9, n10, n11, n12, n13, n14, n15⟩
  case inr.inr.inr.inr.inr.inr.inr.inr.inr.inr.inr.inr.inr.inr.inr =>
    simp only [n1, n2, n3, n4, n5, n6, n7, n8, n9, n10, n11, n12, n13, n14, n15, decide_false, if_false, or_self, Bool.or_self, Bool.false_or, Bool.false_and, Bool.and_false] at u1 u2 u3 u4 u5 u6 u7 u8 u9 u10 u11 u12 u13 u14 u15 hr2
    cbv
    repeat' first | with_reducible rfl | (simp only [u1, u2, u3, u4, u5, u6, u7, u8, u9, u10, u11, u12, u13, u14, u15]; cbv) | (simp only [vtS, vtT, vM0, vM1, vN0, vN1, vN2, vn0, vn1, vl1, vl4, vl6, vg1, vz0, vz1, vz2, vz3, vz4, vz5]; cbv) | with_reducible refine And.intro ?_ ?_ | ((with_reducible intro hcc); first | (cases hcc; done) | skip) | ((with_reducible show goC _ _ _ _ _ _ _ _); cbv) | ((with_reducible show goOps _ _ _ _ _); cbv) | ((with_reducible show okWr _ _ = _); rfl) | ((with_reducible refine hA.row es i _ ⟨hi, fun row hrow => ?_⟩); rw [e1] at hrow; subst hrow; cbv) | ((with_reducible refine callK_eq hA hP ?_ ?_ ?_ (Wks.refl _) (fun _ _ => h267)); exact rfl; exact rfl; cbv) | ((with_reducible refine callK_eq hA hP ?_ ?_ ?_ (Wks.refl _) (fun _ _ => h268)); exact rfl; exact rfl; cbv) | ((with_reducible refine callK_eq hA hP ?_ ?_ ?_ (Wks.refl _) (fun _ _ => h66S)); exact rfl; exact rfl; cbv) | ((with_reducible refine callK_eq hA hP ?_ ?_ ?_ (Wks.refl _) (fun _ _ => h66T)); exact rfl; exact rfl; cbv) | ((with_reducible refine callK_eq hA hP ?_ ?_ ?_ (Wks.refl _) (fun _ _ => h269)); exact rfl; exact rfl; cbv) | ((with_reducible refine callK_eq hA hP ?_ ?_ ?_ (Wks.refl _) (fun _ _ => h270)); exact rfl; exact rfl; cbv) | ((with_reducible show A.call _ _ _ _ false _ _ _ _); refine callK_no hA (.bool false) ?_; cbv) | ((with_reducible refine hA.fin_pl _ _ _ ?_); cbv) | ((with_reducible refine hA.len _ _ _ _ _ fun z hz hb => ?_); cbv) | ((with_reducible refine hA.off _ _ _ _ fun b hb => ?_); cbv) | ((with_reducible refine hA.plus _ _ _ fun b hb => ?_); cbv) | ((with_reducible refine hA.st _ _ _ _ _ ⟨?_, fun ds hds => ?_⟩); rotate_left; cbv) | ((with_reducible refine hA.sapp _ _ _ ⟨?_, fun sl hsl => ?_⟩); rotate_left; cbv) | ((with_reducible refine hA.gb0 true _ ?_); cbv) | ((with_reducible refine hA.gb0 false _ ?_); cbv) | ((with_reducible refine hA.gb _ _ fun vb hvb => ?_); cbv) | (simp only [hA.natLit, hA.natOf, hA.natCast]; cbv)
    all_goals try simp only [hA.add, hA.sub, hA.mul, hA.neg, hA.div, hA.mod, hA.mn, hA.mx, hA.eq, hA.lt, hA.le, hA.nat, hA.R, hA.lep, hA.ltp, hA.seq, inR, n_cast, Int.ofNat_eq_natCast, Option.getD_some, Option.getD_none] at *
    all_goals (clear h267 h268 h66S h66T h269 h270 u1 u2 u3 u4 u5 u6 u7 u8 u9 u10 u11 u12 u13 u14 u15 vtS vtT vM0 vM1 vN0 vN1 vN2 vn0 vn1 vl1 vl4 vl6 vg1 vz0 vz1 vz2 vz3 vz4 vz5 e1 hP hk hkl hi he e0)
    all_goals first
      | (rw [hr2]; done)
      | omega
      | (split <;> first | rfl | trivial | assumption | (simp_all; done))
      | (cases btS <;> first | rfl | trivial | (simp; done))
      | (cases bM0 <;> first | rfl | trivial | (simp; done))
      | (cases bl1 <;> first | rfl | trivial | (simp; done))
      | (split <;> first | trivial | (rename_i hq; revert hq; cases bN1 <;> simp; done))
      | (rw [hr2]; simp_all; done)
      | (rw [hr2]; grind)
      | (trace_state; fail)
  case inr.inr.inr.inr.inr.inr.inl =>
    simp only [Int.reduceEq, decide_true, decide_false, if_true, if_false, or_true, true_or, or_self, Bool.true_or, Bool.or_true, Bool.false_or, Bool.or_false, Bool.or_self, Bool.true_and] at u1 u2 u3 u4 u5 u6 u7 u8 u9 u10 u11 u12 u13 u14 u15 hr2
    have hkl2 : ks.length = x.length := by rw [hkk, List.length_map, hxl]
    have hq : ∀ (j : Nat) (k : Int), Ks[j]? = some k → ks[j]? = some (kAt ns k) := fun j k h => by rw [hkk, List.getElem?_map, h]; rfl
    obtain ⟨g, hg⟩ : ∃ g, g = (((!btS) == false) && (((!btT) == false) && (bN0 && bM0))) := ⟨_, rfl⟩
    have f0 : g = false → r = false := fun h => by rw [hr2, hg.symm.trans h]; rfl
    have f1 : ∀ (j : Nat) (k : Int), ks[j]? = some k → k ≠ 6 → r = false := fun j k h1 h2 => by
      have : (ks.all fun k => decide (k = 6)) = false := by rw [List.all_eq_false]; exact ⟨k, getI h1, by simp [h2]⟩
      rw [hr2, this]; simp
    have f2 : g = true → (∀ (j : Nat) (k : Int), ks[j]? = some k → k = 6) → r = decide ((2 : Int) ≤ x.length) := fun h1 h2 => by
      have e : (ks.all fun k => decide (k = 6)) = true := by
        rw [List.all_eq_true]
        intro k hk
        obtain ⟨j, hj, rfl⟩ := List.getElem_of_mem hk
        exact decide_eq_true (h2 j _ (by simp [hj]))
      rw [hr2, hg.symm.trans h1, e, hkl2, Bool.true_and, Bool.true_and]
      congr 1; apply propext; omega
    clear hr2
    cases btS
    case false =>
      have hr2 := f0 (by rw [hg]; rfl)
      cbv
      repeat' first | with_reducible rfl | (simp only [u1, u2, u3, u4, u5, u6, u7, u8, u9, u10, u11, u12, u13, u14, u15]; cbv) | (simp only [vtS, vtT, vM0, vM1, vN0, vN1, vN2, vn0, vn1, vl1, vl4, vl6, vg1, vz0, vz1, vz2, vz3, vz4, vz5]; cbv) | with_reducible refine And.intro ?_ ?_ | ((with_reducible intro hcc); first | (cases hcc; done) | skip) | ((with_reducible show goC _ _ _ _ _ _ _ _); cbv) | ((with_reducible show goOps _ _ _ _ _); cbv) | ((with_reducible show okWr _ _ = _); rfl) | ((with_reducible refine hA.row es i _ ⟨hi, fun row hrow => ?_⟩); rw [e1] at hrow; subst hrow; cbv) | ((with_reducible refine callK_eq hA hP ?_ ?_ ?_ (Wks.refl _) (fun _ _ => h267)); exact rfl; exact rfl; cbv) | ((with_reducible refine callK_eq hA hP ?_ ?_ ?_ (Wks.refl _) (fun _ _ => h268)); exact rfl; exact rfl; cbv) | ((with_reducible refine callK_eq hA hP ?_ ?_ ?_ (Wks.refl _) (fun _ _ => h66S)); exact rfl; exact rfl; cbv) | ((with_reducible refine callK_eq hA hP ?_ ?_ ?_ (Wks.refl _) (fun _ _ => h66T)); exact rfl; exact rfl; cbv) | ((with_reducible refine callK_eq hA hP ?_ ?_ ?_ (Wks.refl _) (fun _ _ => h269)); exact rfl; exact rfl; cbv) | ((with_reducible refine callK_eq hA hP ?_ ?_ ?_ (Wks.refl _) (fun _ _ => h270)); exact rfl; exact rfl; cbv) | ((with_reducible refine hA.fin_pl _ _ _ ?_); cbv) | ((with_reducible refine hA.len _ _ _ _ _ fun z hz hb => ?_); cbv) | ((with_reducible refine hA.off _ _ _ _ fun b hb => ?_); cbv) | ((with_reducible refine hA.plus _ _ _ fun b hb => ?_); cbv) | ((with_reducible refine hA.st _ _ _ _ _ ⟨?_, fun ds hds => ?_⟩); rotate_left; cbv) | ((with_reducible refine hA.sapp _ _ _ ⟨?_, fun sl hsl => ?_⟩); rotate_left; cbv) | ((with_reducible refine hA.gb0 true _ ?_); cbv) | ((with_reducible refine hA.gb0 false _ ?_); cbv) | ((with_reducible refine hA.gb _ _ fun vb hvb => ?_); cbv) | (simp only [hA.natLit, hA.natOf, hA.natCast]; cbv)
      all_goals try simp only [hA.add, hA.sub, hA.mul, hA.neg, hA.div, hA.mod, hA.mn, hA.mx, hA.eq, hA.lt, hA.le, hA.nat, hA.R, hA.lep, hA.ltp, hA.seq, inR, n_cast, Int.ofNat_eq_natCast, Option.getD_some, Option.getD_none] at *
      all_goals (skip)
      all_goals first
        | (rw [hr2]; done)
        | (split <;> first | rfl | trivial | assumption | (simp_all; done))
        | (cases bM0 <;> first | rfl | trivial | (simp; done))
        | (cases bl1 <;> first | rfl | trivial | (simp; done))
        | (simp_all; done)
        | (trace_state; fail)
    cases btT
    case true.false =>
      have hr2 := f0 (by rw [hg]; rfl)
      cbv
      repeat' first | with_reducible rfl | (simp only [u1, u2, u3, u4, u5, u6, u7, u8, u9, u10, u11, u12, u13, u14, u15]; cbv) | (simp only [vtS, vtT, vM0, vM1, vN0, vN1, vN2, vn0, vn1, vl1, vl4, vl6, vg1, vz0, vz1, vz2, vz3, vz4, vz5]; cbv) | with_reducible refine And.intro ?_ ?_ | ((with_reducible intro hcc); first | (cases hcc; done) | skip) | ((with_reducible show goC _ _ _ _ _ _ _ _); cbv) | ((with_reducible show goOps _ _ _ _ _); cbv) | ((with_reducible show okWr _ _ = _); rfl) | ((with_reducible refine hA.row es i _ ⟨hi, fun row hrow => ?_⟩); rw [e1] at hrow; subst hrow; cbv) | ((with_reducible refine callK_eq hA hP ?_ ?_ ?_ (Wks.refl _) (fun _ _ => h267)); exact rfl; exact rfl; cbv) | ((with_reducible refine callK_eq hA hP ?_ ?_ ?_ (Wks.refl _) (fun _ _ => h268)); exact rfl; exact rfl; cbv) | ((with_reducible refine callK_eq hA hP ?_ ?_ ?_ (Wks.refl _) (fun _ _ => h66S)); exact rfl; exact rfl; cbv) | ((with_reducible refine callK_eq hA hP ?_ ?_ ?_ (Wks.refl _) (fun _ _ => h66T)); exact rfl; exact rfl; cbv) | ((with_reducible refine callK_eq hA hP ?_ ?_ ?_ (Wks.refl _) (fun _ _ => h269)); exact rfl; exact rfl; cbv) | ((with_reducible refine callK_eq hA hP ?_ ?_ ?_ (Wks.refl _) (fun _ _ => h270)); exact rfl; exact rfl; cbv) | ((with_reducible refine hA.fin_pl _ _ _ ?_); cbv) | ((with_reducible refine hA.len _ _ _ _ _ fun z hz hb => ?_); cbv) | ((with_reducible refine hA.off _ _ _ _ fun b hb => ?_); cbv) | ((with_reducible refine hA.plus _ _ _ fun b hb => ?_); cbv) | ((with_reducible refine hA.st _ _ _ _ _ ⟨?_, fun ds hds => ?_⟩); rotate_left; cbv) | ((with_reducible refine hA.sapp _ _ _ ⟨?_, fun sl hsl => ?_⟩); rotate_left; cbv) | ((with_reducible refine hA.gb0 true _ ?_); cbv) | ((with_reducible refine hA.gb0 false _ ?_); cbv) | ((with_reducible refine hA.gb _ _ fun vb hvb => ?_); cbv) | (simp only [hA.natLit, hA.natOf, hA.natCast]; cbv)
      all_goals try simp only [hA.add, hA.sub, hA.mul, hA.neg, hA.div, hA.mod, hA.mn, hA.mx, hA.eq, hA.lt, hA.le, hA.nat, hA.R, hA.lep, hA.ltp, hA.seq, inR, n_cast, Int.ofNat_eq_natCast, Option.getD_some, Option.getD_none] at *
      all_goals (skip)
      all_goals first
        | (rw [hr2]; done)
        | (split <;> first | rfl | trivial | assumption | (simp_all; done))
        | (cases bM0 <;> first | rfl | trivial | (simp; done))
        | (cases bl1 <;> first | rfl | trivial | (simp; done))
        | (simp_all; done)
        | (trace_state; fail)
    cases bN0
    case true.true.false =>
      have hr2 := f0 (by rw [hg]; rfl)
      cbv
      repeat' first | with_reducible rfl | (simp only [u1, u2, u3, u4, u5, u6, u7, u8, u9, u10, u11, u12, u13, u14, u15]; cbv) | (simp only [vtS, vtT, vM0, vM1, vN0, vN1, vN2, vn0, vn1, vl1, vl4, vl6, vg1, vz0, vz1, vz2, vz3, vz4, vz5]; cbv) | with_reducible refine And.intro ?_ ?_ | ((with_reducible intro hcc); first | (cases hcc; done) | skip) | ((with_reducible show goC _ _ _ _ _ _ _ _); cbv) | ((with_reducible show goOps _ _ _ _ _); cbv) | ((with_reducible show okWr _ _ = _); rfl) | ((with_reducible refine hA.row es i _ ⟨hi, fun row hrow => ?_⟩); rw [e1] at hrow; subst hrow; cbv) | ((with_reducible refine callK_eq hA hP ?_ ?_ ?_ (Wks.refl _) (fun _ _ => h267)); exact rfl; exact rfl; cbv) | ((with_reducible refine callK_eq hA hP ?_ ?_ ?_ (Wks.refl _) (fun _ _ => h268)); exact rfl; exact rfl; cbv) | ((with_reducible refine callK_eq hA hP ?_ ?_ ?_ (Wks.refl _) (fun _ _ => h66S)); exact rfl; exact rfl; cbv) | ((with_reducible refine callK_eq hA hP ?_ ?_ ?_ (Wks.refl _) (fun _ _ => h66T)); exact rfl; exact rfl; cbv) | ((with_reducible refine callK_eq hA hP ?_ ?_ ?_ (Wks.refl _) (fun _ _ => h269)); exact rfl; exact rfl; cbv) | ((with_reducible refine callK_eq hA hP ?_ ?_ ?_ (Wks.refl _) (fun _ _ => h270)); exact rfl; exact rfl; cbv) | ((with_reducible refine hA.fin_pl _ _ _ ?_); cbv) | ((with_reducible refine hA.len _ _ _ _ _ fun z hz hb => ?_); cbv) | ((with_reducible refine hA.off _ _ _ _ fun b hb => ?_); cbv) | ((with_reducible refine hA.plus _ _ _ fun b hb => ?_); cbv) | ((with_reducible refine hA.st _ _ _ _ _ ⟨?_, fun ds hds => ?_⟩); rotate_left; cbv) | ((with_reducible refine hA.sapp _ _ _ ⟨?_, fun sl hsl => ?_⟩); rotate_left; cbv) | ((with_reducible refine hA.gb0 true _ ?_); cbv) | ((with_reducible refine hA.gb0 false _ ?_); cbv) | ((with_reducible refine hA.gb _ _ fun vb hvb => ?_); cbv) | (simp only [hA.natLit, hA.natOf, hA.natCast]; cbv)
      all_goals try simp only [hA.add, hA.sub, hA.mul, hA.neg, hA.div, hA.mod, hA.mn, hA.mx, hA.eq, hA.lt, hA.le, hA.nat, hA.R, hA.lep, hA.ltp, hA.seq, inR, n_cast, Int.ofNat_eq_natCast, Option.getD_some, Option.getD_none] at *
      all_goals (skip)
      all_goals first
        | (rw [hr2]; done)
        | (split <;> first | rfl | trivial | assumption | (simp_all; done))
        | (cases bM0 <;> first | rfl | trivial | (simp; done))
        | (cases bl1 <;> first | rfl | trivial | (simp; done))
        | (simp_all; done)
        | (trace_state; fail)
    cases bM0
    case true.true.true.false =>
      have hr2 := f0 (by rw [hg]; rfl)
      cbv
      repeat' first | with_reducible rfl | (simp only [u1, u2, u3, u4, u5, u6, u7, u8, u9, u10, u11, u12, u13, u14, u15]; cbv) | (simp only [vtS, vtT, vM0, vM1, vN0, vN1, vN2, vn0, vn1, vl1, vl4, vl6, vg1, vz0, vz1, vz2, vz3, vz4, vz5]; cbv) | with_reducible refine And.intro ?_ ?_ | ((with_reducible intro hcc); first | (cases hcc; done) | skip) | ((with_reducible show goC _ _ _ _ _ _ _ _); cbv) | ((with_reducible show goOps _ _ _ _ _); cbv) | ((with_reducible show okWr _ _ = _); rfl) | ((with_reducible refine hA.row es i _ ⟨hi, fun row hrow => ?_⟩); rw [e1] at hrow; subst hrow; cbv) | ((with_reducible refine callK_eq hA hP ?_ ?_ ?_ (Wks.refl _) (fun _ _ => h267)); exact rfl; exact rfl; cbv) | ((with_reducible refine callK_eq hA hP ?_ ?_ ?_ (Wks.refl _) (fun _ _ => h268)); exact rfl; exact rfl; cbv) | ((with_reducible refine callK_eq hA hP ?_ ?_ ?_ (Wks.refl _) (fun _ _ => h66S)); exact rfl; exact rfl; cbv) | ((with_reducible refine callK_eq hA hP ?_ ?_ ?_ (Wks.refl _) (fun _ _ => h66T)); exact rfl; exact rfl; cbv) | ((with_reducible refine callK_eq hA hP ?_ ?_ ?_ (Wks.refl _) (fun _ _ => h269)); exact rfl; exact rfl; cbv) | ((with_reducible refine callK_eq hA hP ?_ ?_ ?_ (Wks.refl _) (fun _ _ => h270)); exact rfl; exact rfl; cbv) | ((with_reducible refine hA.fin_pl _ _ _ ?_); cbv) | ((with_reducible refine hA.len _ _ _ _ _ fun z hz hb => ?_); cbv) | ((with_reducible refine hA.off _ _ _ _ fun b hb => ?_); cbv) | ((with_reducible refine hA.plus _ _ _ fun b hb => ?_); cbv) | ((with_reducible refine hA.st _ _ _ _ _ ⟨?_, fun ds hds => ?_⟩); rotate_left; cbv) | ((with_reducible refine hA.sapp _ _ _ ⟨?_, fun sl hsl => ?_⟩); rotate_left; cbv) | ((with_reducible refine hA.gb0 true _ ?_); cbv) | ((with_reducible refine hA.gb0 false _ ?_); cbv) | ((with_reducible refine hA.gb _ _ fun vb hvb => ?_); cbv) | (simp only [hA.natLit, hA.natOf, hA.natCast]; cbv)
      all_goals try simp only [hA.add, hA.sub, hA.mul, hA.neg, hA.div, hA.mod, hA.mn, hA.mx, hA.eq, hA.lt, hA.le, hA.nat, hA.R, hA.lep, hA.ltp, hA.seq, inR, n_cast, Int.ofNat_eq_natCast, Option.getD_some, Option.getD_none] at *
      all_goals (skip)
      all_goals first
        | (rw [hr2]; done)
        | (split <;> first | rfl | trivial | assumption | (simp_all; done))
        | (cases bM0 <;> first | rfl | trivial | (simp; done))
        | (cases bl1 <;> first | rfl | trivial | (simp; done))
        | (simp_all; done)
        | (trace_state; fail)
    have f2 := f2 (by rw [hg]; rfl)
    clear f0 hg
    cbv
    repeat' first | with_reducible rfl | (simp only [u1, u2, u3, u4, u5, u6, u7, u8, u9, u10, u11, u12, u13, u14, u15]; cbv) | (simp only [vtS, vtT, vM0, vM1, vN0, vN1, vN2, vn0, vn1, vl1, vl4, vl6, vg1, vz0, vz1, vz2, vz3, vz4, vz5]; cbv) | with_reducible refine And.intro ?_ ?_ | ((with_reducible intro hcc); first | (cases hcc; done) | skip) | ((with_reducible show goC _ _ _ _ _ _ _ _); cbv) | ((with_reducible show goOps _ _ _ _ _); cbv) | ((with_reducible show okWr _ _ = _); rfl) | ((with_reducible refine hA.row es i _ ⟨hi, fun row hrow => ?_⟩); rw [e1] at hrow; subst hrow; cbv) | ((with_reducible refine callK_eq hA hP ?_ ?_ ?_ (Wks.refl _) (fun _ _ => h267)); exact rfl; exact rfl; cbv) | ((with_reducible refine callK_eq hA hP ?_ ?_ ?_ (Wks.refl _) (fun _ _ => h268)); exact rfl; exact rfl; cbv) | ((with_reducible refine callK_eq hA hP ?_ ?_ ?_ (Wks.refl _) (fun _ _ => h66S)); exact rfl; exact rfl; cbv) | ((with_reducible refine callK_eq hA hP ?_ ?_ ?_ (Wks.refl _) (fun _ _ => h66T)); exact rfl; exact rfl; cbv) | ((with_reducible refine callK_eq hA hP ?_ ?_ ?_ (Wks.refl _) (fun _ _ => h269)); exact rfl; exact rfl; cbv) | ((with_reducible refine callK_eq hA hP ?_ ?_ ?_ (Wks.refl _) (fun _ _ => h270)); exact rfl; exact rfl; cbv) | ((with_reducible refine hA.fin_pl _ _ _ ?_); cbv) | ((with_reducible refine hA.len _ _ _ _ _ fun z hz hb => ?_); cbv) | ((with_reducible refine hA.off _ _ _ _ fun b hb => ?_); cbv) | ((with_reducible refine hA.plus _ _ _ fun b hb => ?_); cbv) | ((with_reducible refine hA.st _ _ _ _ _ ⟨?_, fun ds hds => ?_⟩); rotate_left; cbv) | ((with_reducible refine hA.sapp _ _ _ ⟨?_, fun sl hsl => ?_⟩); rotate_left; cbv) | ((with_reducible refine hA.gb0 true _ ?_); cbv) | ((with_reducible refine hA.gb0 false _ ?_); cbv) | ((with_reducible refine hA.gb _ _ fun vb hvb => ?_); cbv) | (simp only [hA.natLit, hA.natOf, hA.natCast]; cbv)
    all_goals try simp only [hA.add, hA.sub, hA.mul, hA.neg, hA.div, hA.mod, hA.mn, hA.mx, hA.eq, hA.lt, hA.le, hA.nat, hA.R, hA.lep, hA.ltp, hA.seq, inR, n_cast, Int.ofNat_eq_natCast, Option.getD_some, Option.getD_none] at *
    all_goals try (first | (split <;> first | rfl | trivial | assumption | (simp_all; done)) | (cases bM1 <;> first | rfl | trivial | (simp; done)) | (cases bl1 <;> first | rfl | trivial | (simp; done)))
    refine hA.loopI (fun m s => ∃ (j : Int), 0 ≤ j ∧ m + j = x.length ∧ (∀ (q : Nat) (k : Int), (q : Int) < j → ks[q]? = some k → k = 6) ∧ s = ⟨[(12, .int j), (5, .ref 0 0), (0, .e (.sl es)), (1, .int i), (4, .bool false)], [.box [.int 7, .int N, .int M, .str S, .str T, .e (.sl x)]]⟩) x.length _
      (Weak.keep (env' := [(12, .int 0), (5, .ref 0 0), (0, .e (.sl es)), (1, .int i), (4, .bool false)]) ⟨rfl, rfl, rfl, rfl, rfl, trivial⟩) ⟨0, by omega, by omega, (fun q k h => by omega), rfl⟩ ?_
    rintro m s K' ⟨j, j0, j1, j2, rfl⟩ hK
    by_cases hj : (0 : Int) ≤ j ∧ j < x.length
    · obtain ⟨k, e2, q2⟩ := int_at hx hj
      have hkk0 := hk k (getI q2)
      obtain ⟨K2, N2, M2, S2, T2, Ks2, x2, e3, hx2, e4⟩ := node_at he hkk0
      have hq2 := hq _ _ q2
      rw [show kAt ns k = K2 by rw [kAt, e3]] at hq2
      have hf := f1 _ _ hq2
      have hK2 : ∀ (env : List (Nat × D)), K2 = 6 → subL [(12, .int (j + 1)), (5, .ref 0 0), (0, .e (.sl es)), (1, .int i), (4, .bool false)] env → K' ⟨env, [.box [.int 7, .int N, .int M, .str S, .str T, .e (.sl x)]]⟩ := fun env g1 g2 =>
        hK _ (m - 1) _ (by omega) (Weak.keep g2) ⟨j + 1, by omega, by omega, (fun q k' h1 h2 => by
          by_cases hji : (q : Int) < j
          · exact j2 q k' hji h2
          · have : q = j.toNat := by omega
            rw [this, hq2] at h2
            cases h2
            exact g1), rfl⟩
      clear hK f1 f2 j2 hq hq2 e3 hx2
      cbv
      repeat' first | with_reducible rfl | with_reducible refine And.intro ?_ ?_ | ((with_reducible intro hcc); first | (cases hcc; done) | skip) | ((with_reducible show goC _ _ _ _ _ _ _ _); cbv) | ((with_reducible show goOps _ _ _ _ _); cbv) | ((with_reducible show okWr _ _ = _); rfl) | ((with_reducible refine hA.row x _ _ ⟨hj, fun row hrow => ?_⟩); rw [e2] at hrow; subst hrow; cbv) | ((with_reducible refine hA.row es k _ ⟨hkk0, fun row hrow => ?_⟩); rw [e4] at hrow; subst hrow; cbv) | ((with_reducible refine hA.fin_pl _ _ _ ?_); cbv) | ((with_reducible refine hA.len _ _ _ _ _ fun z hz hb => ?_); cbv) | ((with_reducible refine hA.off _ _ _ _ fun b hb => ?_); cbv) | ((with_reducible refine hA.plus _ _ _ fun b hb => ?_); cbv) | ((with_reducible refine hA.st _ _ _ _ _ ⟨?_, fun ds hds => ?_⟩); rotate_left; cbv) | ((with_reducible refine hA.sapp _ _ _ ⟨?_, fun sl hsl => ?_⟩); rotate_left; cbv) | ((with_reducible refine hA.gb0 true _ ?_); cbv) | ((with_reducible refine hA.gb0 false _ ?_); cbv) | ((with_reducible refine hA.gb _ _ fun vb hvb => ?_); cbv) | (simp only [hA.natLit, hA.natOf, hA.natCast]; cbv)
      all_goals try simp only [hA.add, hA.sub, hA.mul, hA.neg, hA.div, hA.mod, hA.mn, hA.mx, hA.eq, hA.lt, hA.le, hA.nat, hA.R, hA.lep, hA.ltp, hA.seq, inR, n_cast, Int.ofNat_eq_natCast, Option.getD_some, Option.getD_none] at *
      all_goals first
        | omega
        | (rw [hf (by have q := (by assumption : (!decide (K2 = 6)) = true); simpa using q)]; done)
        | exact hK2 _ (by have q := (by assumption : (!decide (K2 = 6)) = false); simpa using q) ⟨rfl, rfl, rfl, rfl, rfl, trivial⟩
        | (exfalso; clear hK2 hf; simp only [decide_eq_true_eq, decide_eq_false_iff_not] at *; omega)
        | (clear hK2; grind)
        | (trace_state; fail)
    · have hr2 := f2 fun q k h => j2 q k (by
        have := (List.getElem?_eq_some_iff.1 h).1
        omega) h
      clear hK f1 f2 j2 hq
      cbv
      repeat' first | with_reducible rfl | with_reducible refine And.intro ?_ ?_ | ((with_reducible intro hcc); first | (cases hcc; done) | skip) | ((with_reducible show goC _ _ _ _ _ _ _ _); cbv) | ((with_reducible show goOps _ _ _ _ _); cbv) | ((with_reducible show okWr _ _ = _); rfl) | ((with_reducible refine hA.row x _ _ ?_); exfalso; simp only [hA.lt, hA.sub, decide_eq_true_eq, decide_eq_false_iff_not, n_cast] at *; omega) | ((with_reducible refine hA.fin_pl _ _ _ ?_); cbv) | ((with_reducible refine hA.len _ _ _ _ _ fun z hz hb => ?_); cbv) | ((with_reducible refine hA.off _ _ _ _ fun b hb => ?_); cbv) | ((with_reducible refine hA.plus _ _ _ fun b hb => ?_); cbv) | ((with_reducible refine hA.st _ _ _ _ _ ⟨?_, fun ds hds => ?_⟩); rotate_left; cbv) | ((with_reducible refine hA.sapp _ _ _ ⟨?_, fun sl hsl => ?_⟩); rotate_left; cbv) | ((with_reducible refine hA.gb0 true _ ?_); cbv) | ((with_reducible refine hA.gb0 false _ ?_); cbv) | ((with_reducible refine hA.gb _ _ fun vb hvb => ?_); cbv) | (simp only [hA.natLit, hA.natOf, hA.natCast]; cbv)
      all_goals try simp only [hA.add, hA.sub, hA.mul, hA.neg, hA.div, hA.mod, hA.mn, hA.mx, hA.eq, hA.lt, hA.le, hA.nat, hA.R, hA.lep, hA.ltp, hA.seq, inR, n_cast, Int.ofNat_eq_natCast, Option.getD_some, Option.getD_none] at *
      all_goals first
        | omega
        | (rw [hr2]; congr 3; subst_vars; rfl)
        | (rw [hr2]; subst_vars; rfl)
        | (trace_state; fail)
  all_goals simp only [Int.reduceEq, decide_true, decide_false, if_true, if_false, or_true, true_or, or_self, Bool.true_or, Bool.or_true, Bool.false_or, Bool.or_false, Bool.or_self, Bool.true_and] at u1 u2 u3 u4 u5 u6 u7 u8 u9 u10 u11 u12 u13 u14 u15 hr2
  all_goals
    cbv
    repeat' first | with_reducible rfl | (simp only [u1, u2, u3, u4, u5, u6, u7, u8, u9, u10, u11, u12, u13, u14, u15]; cbv) | (simp only [vtS, vtT, vM0, vM1, vN0, vN1, vN2, vn0, vn1, vl1, vl4, vl6, vg1, vz0, vz1, vz2, vz3, vz4, vz5]; cbv) | with_reducible refine And.intro ?_ ?_ | ((with_reducible intro hcc); first | (cases hcc; done) | skip) | ((with_reducible show goC _ _ _ _ _ _ _ _); cbv) | ((with_reducible show goOps _ _ _ _ _); cbv) | ((with_reducible show okWr _ _ = _); rfl) | ((with_reducible refine hA.row es i _ ⟨hi, fun row hrow => ?_⟩); rw [e1] at hrow; subst hrow; cbv) | ((with_reducible refine callK_eq hA hP ?_ ?_ ?_ (Wks.refl _) (fun _ _ => h267)); exact rfl; exact rfl; cbv) | ((with_reducible refine callK_eq hA hP ?_ ?_ ?_ (Wks.refl _) (fun _ _ => h268)); exact rfl; exact rfl; cbv) | ((with_reducible refine callK_eq hA hP ?_ ?_ ?_ (Wks.refl _) (fun _ _ => h66S)); exact rfl; exact rfl; cbv) | ((with_reducible refine callK_eq hA hP ?_ ?_ ?_ (Wks.refl _) (fun _ _ => h66T)); exact rfl; exact rfl; cbv) | ((with_reducible refine callK_eq hA hP ?_ ?_ ?_ (Wks.refl _) (fun _ _ => h269)); exact rfl; exact rfl; cbv) | ((with_reducible refine callK_eq hA hP ?_ ?_ ?_ (Wks.refl _) (fun _ _ => h270)); exact rfl; exact rfl; cbv) | ((with_reducible refine hA.fin_pl _ _ _ ?_); cbv) | ((with_reducible refine hA.len _ _ _ _ _ fun z hz hb => ?_); cbv) | ((with_reducible refine hA.off _ _ _ _ fun b hb => ?_); cbv) | ((with_reducible refine hA.plus _ _ _ fun b hb => ?_); cbv) | ((with_reducible refine hA.st _ _ _ _ _ ⟨?_, fun ds hds => ?_⟩); rotate_left; cbv) | ((with_reducible refine hA.sapp _ _ _ ⟨?_, fun sl hsl => ?_⟩); rotate_left; cbv) | ((with_reducible refine hA.gb0 true _ ?_); cbv) | ((with_reducible refine hA.gb0 false _ ?_); cbv) | ((with_reducible refine hA.gb _ _ fun vb hvb => ?_); cbv) | (simp only [hA.natLit, hA.natOf, hA.natCast]; cbv)
    all_goals try simp only [hA.add, hA.sub, hA.mul, hA.neg, hA.div, hA.mod, hA.mn, hA.mx, hA.eq, hA.lt, hA.le, hA.nat, hA.R, hA.lep, hA.ltp, hA.seq, inR, n_cast, Int.ofNat_eq_natCast, Option.getD_some, Option.getD_none] at *
    all_goals (clear h267 h268 h66S h66T h269 h270 u1 u2 u3 u4 u5 u6 u7 u8 u9 u10 u11 u12 u13 u14 u15 vtS vtT vM0 vM1 vN0 vN1 vN2 vn0 vn1 vl1 vl4 vl6 vg1 vz0 vz1 vz2 vz3 vz4 vz5 e1 hP hk hkl hi he e0)
    all_goals first
      | (rw [hr2]; done)
      | (split <;> first | rfl | trivial | assumption | (simp_all; done))
      | (cases btS <;> first | rfl | trivial | (simp; done))
      | (cases bM0 <;> first | rfl | trivial | (simp; done))
      | (cases bl1 <;> first | rfl | trivial | (simp; done))
      | (split <;> first | trivial | (rename_i hq; revert hq; cases bN1 <;> simp; done))
      | (rw [hr2]; simp_all; done)
      | (rw [hr2]; grind)
      | (trace_state; fail))
end Go.Proofs.Ytfplalbognalkaa.Ab
/- Order and depth of nodes, by the specification. -/
namespace Go.Proofs.Ytfplalbognalkaa.Ab
open Go
set_option maxRecDepth 100000 in
set_option maxHeartbeats 2000000 in
theorem ok63 (ns : List Nd) (es : List (List E)) (he : es = ns.map ndr) (hkl : ∀ d ∈ ns, d.Ks.length ≤ 1048576) : ∀ (n : Nat) (i : Int), i.toNat < n → 0 ≤ i ∧ i < es.length → es.length ≤ 1048576 → Plain Try.prog 63 [.e (.sl es), .int i] (.int (st ns i.toNat)) := by
  intro n
  induction n with
  | zero => intro i h; omega
  | succ n ih =>
    intro i hin hi hlen
    refine okOf mixed p63 fun A P hA hP => ?_
    obtain ⟨K, N, M, S, T, Ks, x, e0, hx, e1⟩ := node_at he hi
    have hks : kidsAt ns i.toNat = Ks := by rw [kidsAt, e0]
    have hmem : (⟨K, N, M, S, T, Ks⟩ : Nd) ∈ ns := by
      rw [← e0]
      have : i.toNat < ns.length := by have : es.length = ns.length := by rw [he]; simp
                                       omega
      simp [List.getD, this]
    have hkl1 : Ks.length ≤ 1048576 := hkl _ hmem
    have hxl : x.length = Ks.length := by rw [hx]; simp
    obtain ⟨f, hf⟩ : ∃ f : Int → Int, f = fun j => st ns j.toNat := ⟨_, rfl⟩
    have hfl : ∀ j, 0 ≤ j → f j ≤ j := fun j hj => by rw [hf]; have := st_le ns j.toNat; simp only; omega
    have hfo : ∀ j, -1 ≤ f j := fun j => by rw [hf]; exact st_lo ns j.toNat
    obtain ⟨r, hr⟩ : ∃ r, r = st ns i.toNat := ⟨_, rfl⟩
    have hr2 : r = chain f Ks.reverse i := by rw [hr, st_eq, hks, hf]; congr 1; omega
    rw [← hr]
    clear hr
    cbv
    repeat' first | with_reducible rfl | with_reducible refine And.intro ?_ ?_ | ((with_reducible intro hcc); first | (cases hcc; done) | skip) | ((with_reducible show goC _ _ _ _ _ _ _ _); cbv) | ((with_reducible show goOps _ _ _ _ _); cbv) | ((with_reducible show okWr _ _ = _); rfl) | ((with_reducible refine hA.row es i _ ⟨hi, fun row hrow => ?_⟩); rw [e1] at hrow; subst hrow; cbv) | ((with_reducible refine hA.fin_pl _ _ _ ?_); cbv) | ((with_reducible refine hA.len _ _ _ _ _ fun z hz hb => ?_); cbv) | ((with_reducible refine hA.off _ _ _ _ fun b hb => ?_); cbv) | ((with_reducible refine hA.plus _ _ _ fun b hb => ?_); cbv) | ((with_reducible refine hA.sapp _ _ _ ⟨?_, fun sl hsl => ?_⟩); rotate_left; cbv) | ((with_reducible refine hA.gb0 true _ ?_); cbv) | ((with_reducible refine hA.gb0 false _ ?_); cbv) | ((with_reducible refine hA.gb _ _ fun vb hvb => ?_); cbv) | (simp only [hA.natLit, hA.natOf, hA.natCast]; cbv)
    all_goals try simp only [hA.add, hA.sub, hA.mul, hA.neg, hA.div, hA.mod, hA.mn, hA.mx, hA.eq, hA.lt, hA.le, hA.nat, hA.R, hA.lep, hA.ltp, hA.seq, inR, n_cast, Int.ofNat_eq_natCast, Option.getD_some, Option.getD_none] at *
    all_goals try omega
    refine hA.loopI (fun m s => ∃ (j a : Int), -1 ≤ j ∧ j < x.length ∧ m = (j + 1).toNat ∧ 0 ≤ a + 1 ∧ a < i ∧ r = chain f (Ks.take (j + 1).toNat).reverse (a + 1) ∧ s = ⟨[(7, .int j), (5, .int a), (6, .e (.sl x)), (0, .e (.sl es)), (1, .int i)], []⟩) x.length _
      (Weak.keep (env' := [(7, .int _), (5, .int _), (6, .e (.sl x)), (0, .e (.sl es)), (1, .int i)]) ⟨rfl, rfl, rfl, rfl, rfl, trivial⟩) ⟨_, _, by omega, by omega, by omega, by omega, by omega, ?_, rfl⟩ ?_
    · rw [hr2, List.take_of_length_le (by omega)]; congr 1; omega
    rintro m s K' ⟨j, a, j0, j1, hm, a0, a1, hra, rfl⟩ hK
    by_cases hj : (0 : Int) ≤ j ∧ j < x.length
    · obtain ⟨k, e2, q2⟩ := int_at hx hj
      have ht : (Ks.take (j + 1).toNat).reverse = k :: (Ks.take j.toNat).reverse := by
        rw [show (j + 1).toNat = j.toNat + 1 by omega, take_succ' q2, List.reverse_append]; rfl
      rw [ht, chain] at hra
      by_cases hbad : a < 0
      · have hr3 : r = -1 := by rw [hra, if_pos (by omega)]
        have e3 : A.lt a 0 = true := by rw [hA.lt]; exact decide_eq_true hbad
        clear hK hra hr2 ht ih
        cbv
        repeat' first | with_reducible rfl | (simp only [e3]; cbv) | with_reducible refine And.intro ?_ ?_ | ((with_reducible intro hcc); first | (cases hcc; done) | skip) | ((with_reducible show goC _ _ _ _ _ _ _ _); cbv) | ((with_reducible show goOps _ _ _ _ _); cbv) | ((with_reducible show okWr _ _ = _); rfl) | ((with_reducible refine hA.row x _ _ ⟨hj, fun row hrow => ?_⟩); rw [e2] at hrow; subst hrow; cbv) | ((with_reducible refine hA.fin_pl _ _ _ ?_); cbv) | ((with_reducible refine hA.len _ _ _ _ _ fun z hz hb => ?_); cbv) | ((with_reducible refine hA.off _ _ _ _ fun b hb => ?_); cbv) | ((with_reducible refine hA.plus _ _ _ fun b hb => ?_); cbv) | ((with_reducible refine hA.sapp _ _ _ ⟨?_, fun sl hsl => ?_⟩); rotate_left; cbv) | ((with_reducible refine hA.gb0 true _ ?_); cbv) | ((with_reducible refine hA.gb0 false _ ?_); cbv) | ((with_reducible refine hA.gb _ _ fun vb hvb => ?_); cbv) | (simp only [hA.natLit, hA.natOf, hA.natCast]; cbv)
        all_goals try simp only [hA.add, hA.sub, hA.mul, hA.neg, hA.div, hA.mod, hA.mn, hA.mx, hA.eq, hA.lt, hA.le, hA.nat, hA.R, hA.lep, hA.ltp, hA.seq, inR, n_cast, Int.ofNat_eq_natCast, Option.getD_some, Option.getD_none] at *
        all_goals first
          | omega
          | (rw [hr3]; done)
          | (exfalso; simp only [decide_eq_true_eq, decide_eq_false_iff_not] at *; omega)
          | (trace_state; fail)
      · have e3 : A.lt a 0 = false := by rw [hA.lt]; exact decide_eq_false hbad
        by_cases hne : k = a
        · have e4 : A.eq k a = true := by rw [hA.eq]; exact decide_eq_true hne
          have h228 := ih a (by omega) ⟨by omega, by omega⟩ hlen
          obtain ⟨c, hc⟩ : ∃ c, c = st ns a.toNat := ⟨_, rfl⟩
          rw [← hc] at h228
          have hfa : f (a + 1 - 1) = c := by rw [hf, hc]; simp only; congr 1; omega
          rw [hfa] at hra
          have hca : c ≤ a := by rw [← hfa]; have := hfl (a + 1 - 1) (by omega); omega
          by_cases hc0 : c < 0
          · have e5 : A.lt c 0 = true := by rw [hA.lt]; exact decide_eq_true hc0
            have hr3 : r = -1 := by rw [hra, if_pos (by omega)]
            clear hK hra hr2 ht ih hfl hfo hfa
            cbv
            repeat' first | with_reducible rfl | (simp only [e5]; cbv) | (simp only [e4]; cbv) | (simp only [e3]; cbv) | with_reducible refine And.intro ?_ ?_ | ((with_reducible intro hcc); first | (cases hcc; done) | skip) | ((with_reducible show goC _ _ _ _ _ _ _ _); cbv) | ((with_reducible show goOps _ _ _ _ _); cbv) | ((with_reducible show okWr _ _ = _); rfl) | ((with_reducible refine callK_eq hA hP ?_ ?_ ?_ (Wks.refl _) (fun _ _ => h228)); exact rfl; exact rfl; cbv) | ((with_reducible refine hA.row x _ _ ⟨hj, fun row hrow => ?_⟩); rw [e2] at hrow; subst hrow; cbv) | ((with_reducible refine hA.fin_pl _ _ _ ?_); cbv) | ((with_reducible refine hA.len _ _ _ _ _ fun z hz hb => ?_); cbv) | ((with_reducible refine hA.off _ _ _ _ fun b hb => ?_); cbv) | ((with_reducible refine hA.plus _ _ _ fun b hb => ?_); cbv) | ((with_reducible refine hA.sapp _ _ _ ⟨?_, fun sl hsl => ?_⟩); rotate_left; cbv) | ((with_reducible refine hA.gb0 true _ ?_); cbv) | ((with_reducible refine hA.gb0 false _ ?_); cbv) | ((with_reducible refine hA.gb _ _ fun vb hvb => ?_); cbv) | (simp only [hA.natLit, hA.natOf, hA.natCast]; cbv)
            all_goals try simp only [hA.add, hA.sub, hA.mul, hA.neg, hA.div, hA.mod, hA.mn, hA.mx, hA.eq, hA.lt, hA.le, hA.nat, hA.R, hA.lep, hA.ltp, hA.seq, inR, n_cast, Int.ofNat_eq_natCast, Option.getD_some, Option.getD_none] at *
            all_goals first
              | omega
              | (rw [hr3]; done)
              | (exfalso; simp only [decide_eq_true_eq, decide_eq_false_iff_not] at *; omega)
              | (trace_state; fail)
          · have e5 : A.lt c 0 = false := by rw [hA.lt]; exact decide_eq_false hc0
            rw [if_neg (by omega)] at hra
            have hK2 : ∀ env : List (Nat × D), subL [(7, .int (j - 1)), (5, .int (c - 1)), (6, .e (.sl x)), (0, .e (.sl es)), (1, .int i)] env → K' ⟨env, []⟩ := fun env g =>
              hK _ (m - 1) _ (by omega) (Weak.keep g) ⟨j - 1, c - 1, by omega, by omega, by omega, by omega, by omega, by rw [hra, show (j - 1 + 1).toNat = j.toNat by omega, show c - 1 + 1 = c by omega], rfl⟩
            clear hK hra hr2 ht ih hfl hfo hfa
            cbv
            repeat' first | with_reducible rfl | (simp only [e5]; cbv) | (simp only [e4]; cbv) | (simp only [e3]; cbv) | with_reducible refine And.intro ?_ ?_ | ((with_reducible intro hcc); first | (cases hcc; done) | skip) | ((with_reducible show goC _ _ _ _ _ _ _ _); cbv) | ((with_reducible show goOps _ _ _ _ _); cbv) | ((with_reducible show okWr _ _ = _); rfl) | ((with_reducible refine callK_eq hA hP ?_ ?_ ?_ (Wks.refl _) (fun _ _ => h228)); exact rfl; exact rfl; cbv) | ((with_reducible refine hA.row x _ _ ⟨hj, fun row hrow => ?_⟩); rw [e2] at hrow; subst hrow; cbv) | ((with_reducible refine hA.fin_pl _ _ _ ?_); cbv) | ((with_reducible refine hA.len _ _ _ _ _ fun z hz hb => ?_); cbv) | ((with_reducible refine hA.off _ _ _ _ fun b hb => ?_); cbv) | ((with_reducible refine hA.plus _ _ _ fun b hb => ?_); cbv) | ((with_reducible refine hA.sapp _ _ _ ⟨?_, fun sl hsl => ?_⟩); rotate_left; cbv) | ((with_reducible refine hA.gb0 true _ ?_); cbv) | ((with_reducible refine hA.gb0 false _ ?_); cbv) | ((with_reducible refine hA.gb _ _ fun vb hvb => ?_); cbv) | (simp only [hA.natLit, hA.natOf, hA.natCast]; cbv)
            all_goals try simp only [hA.add, hA.sub, hA.mul, hA.neg, hA.div, hA.mod, hA.mn, hA.mx, hA.eq, hA.lt, hA.le, hA.nat, hA.R, hA.lep, hA.ltp, hA.seq, inR, n_cast, Int.ofNat_eq_natCast, Option.getD_some, Option.getD_none] at *
            all_goals first
              | omega
              | exact hK2 _ ⟨rfl, rfl, rfl, rfl, rfl, trivial⟩
              | (exfalso; clear hK2; simp only [decide_eq_true_eq, decide_eq_false_iff_not] at *; omega)
              | (trace_state; fail)
        · have e4 : A.eq k a = false := by rw [hA.eq]; exact decide_eq_false hne
          have hr3 : r = -1 := by rw [hra, if_pos (by omega)]
          clear hK hra hr2 ht ih
          cbv
          repeat' first | with_reducible rfl | (simp only [e4]; cbv) | (simp only [e3]; cbv) | with_reducible refine And.intro ?_ ?_ | ((with_reducible intro hcc); first | (cases hcc; done) | skip) | ((with_reducible show goC _ _ _ _ _ _ _ _); cbv) | ((with_reducible show goOps _ _ _ _ _); cbv) | ((with_reducible show okWr _ _ = _); rfl) | ((with_reducible refine hA.row x _ _ ⟨hj, fun row hrow => ?_⟩); rw [e2] at hrow; subst hrow; cbv) | ((with_reducible refine hA.fin_pl _ _ _ ?_); cbv) | ((with_reducible refine hA.len _ _ _ _ _ fun z hz hb => ?_); cbv) | ((with_reducible refine hA.off _ _ _ _ fun b hb => ?_); cbv) | ((with_reducible refine hA.plus _ _ _ fun b hb => ?_); cbv) | ((with_reducible refine hA.sapp _ _ _ ⟨?_, fun sl hsl => ?_⟩); rotate_left; cbv) | ((with_reducible refine hA.gb0 true _ ?_); cbv) | ((with_reducible refine hA.gb0 false _ ?_); cbv) | ((with_reducible refine hA.gb _ _ fun vb hvb => ?_); cbv) | (simp only [hA.natLit, hA.natOf, hA.natCast]; cbv)
          all_goals try simp only [hA.add, hA.sub, hA.mul, hA.neg, hA.div, hA.mod, hA.mn, hA.mx, hA.eq, hA.lt, hA.le, hA.nat, hA.R, hA.lep, hA.ltp, hA.seq, inR, n_cast, Int.ofNat_eq_natCast, Option.getD_some, Option.getD_none] at *
          all_goals first
            | omega
            | (rw [hr3]; done)
            | (exfalso; simp only [decide_eq_true_eq, decide_eq_false_iff_not] at *; omega)
            | (trace_state; fail)
    · have hr3 : r = a + 1 := by
        rw [hra, show (j + 1).toNat = 0 by omega]; rfl
      have e3 : A.le 0 j = false := by rw [hA.le]; exact decide_eq_false (by omega)
      clear hK hra hr2 ih
      cbv
      repeat' first | with_reducible rfl | (simp only [e3]; cbv) | with_reducible refine And.intro ?_ ?_ | ((with_reducible intro hcc); first | (cases hcc; done) | skip) | ((with_reducible show goC _ _ _ _ _ _ _ _); cbv) | ((with_reducible show goOps _ _ _ _ _); cbv) | ((with_reducible show okWr _ _ = _); rfl) | ((with_reducible refine hA.fin_pl _ _ _ ?_); cbv) | ((with_reducible refine hA.len _ _ _ _ _ fun z hz hb => ?_); cbv) | ((with_reducible refine hA.off _ _ _ _ fun b hb => ?_); cbv) | ((with_reducible refine hA.plus _ _ _ fun b hb => ?_); cbv) | ((with_reducible refine hA.sapp _ _ _ ⟨?_, fun sl hsl => ?_⟩); rotate_left; cbv) | ((with_reducible refine hA.gb0 true _ ?_); cbv) | ((with_reducible refine hA.gb0 false _ ?_); cbv) | ((with_reducible refine hA.gb _ _ fun vb hvb => ?_); cbv) | (simp only [hA.natLit, hA.natOf, hA.natCast]; cbv)
      all_goals try simp only [hA.add, hA.sub, hA.mul, hA.neg, hA.div, hA.mod, hA.mn, hA.mx, hA.eq, hA.lt, hA.le, hA.nat, hA.R, hA.lep, hA.ltp, hA.seq, inR, n_cast, Int.ofNat_eq_natCast, Option.getD_some, Option.getD_none] at *
      all_goals first
        | omega
        | (rw [hr3]; done)
        | (trace_state; fail)
theorem kAt_at {ns : List Nd} {i : Int} {K N M : Int} {S T : List UInt8} {Ks : List Int} (h : ns.getD i.toNat default = ⟨K, N, M, S, T, Ks⟩) : kAt ns i = K := by rw [kAt, h]
theorem range_succ_map (f : Nat → Int) (n : Nat) : (List.range (n + 1)).map f = (List.range n).map f ++ [f n] := by rw [List.range_succ, List.map_append]; rfl
set_option maxRecDepth 100000 in
set_option maxHeartbeats 2000000 in
theorem ok65 (ns : List Nd) (es : List (List E)) (he : es = ns.map ndr) (hkl : ∀ d ∈ ns, d.Ks.length ≤ 1048576) (hlen : es.length ≤ 1048576) (hst : ∀ i, i < ns.length → 0 ≤ st ns i ∧ dp ns i ≤ 2000000) :
    Plain Try.prog 65 [.e (.sl es)] (.e (.sl (((List.range ns.length).map (dp ns)).map ir))) := okOf mixed p65 fun A P hA hP => (by
  have hel : es.length = ns.length := by rw [he]; simp
  obtain ⟨ts, hts⟩ : ∃ ts, ts = ((List.range ns.length).map (dp ns)).map ir := ⟨_, rfl⟩
  rw [← hts]
  obtain ⟨ze, hze⟩ : ∃ z : Int, z = es.length := ⟨_, rfl⟩
  cbv
  repeat' first | with_reducible rfl | with_reducible refine And.intro ?_ ?_ | ((with_reducible intro hcc); first | (cases hcc; done) | skip) | ((with_reducible show goC _ _ _ _ _ _ _ _); cbv) | ((with_reducible show goOps _ _ _ _ _); cbv) | ((with_reducible show okWr _ _ = _); rfl) | ((with_reducible refine hA.fin_pl _ _ _ ?_); cbv) | ((with_reducible refine hA.len _ _ _ _ _ fun z hz hb => ?_); cbv) | ((with_reducible refine hA.off _ _ _ _ fun b hb => ?_); cbv) | ((with_reducible refine hA.plus _ _ _ fun b hb => ?_); cbv) | ((with_reducible refine hA.app _ _ _ _ _ ⟨?_, fun zs m hzs hm => ?_⟩); rotate_left; cbv) | ((with_reducible refine hA.app0 _ _ _ ⟨?_, fun m hm => ?_⟩); rotate_left; cbv) | ((with_reducible refine hA.alt _ _ (Or.inl ?_)); cbv) | ((with_reducible refine hA.appv _ _ _ _ _ _ ⟨?_, fun bb m ds hbb hm hds => ?_⟩); rotate_left; cbv) | ((with_reducible refine hA.vcut _ _ _ _ ⟨?_, fun cs hcs => ?_⟩); rotate_left; cbv) | ((with_reducible refine hA.appw _ _ _ _ _ _ _ ⟨?_, fun bb m ds hbb hm hds => ?_⟩); rotate_left; cbv) | ((with_reducible refine hA.sapp _ _ _ ⟨?_, fun sl hsl => ?_⟩); rotate_left; cbv) | (simp only [hA.natLit, hA.natOf, hA.natCast]; cbv)
  all_goals try simp only [hA.add, hA.sub, hA.mul, hA.neg, hA.div, hA.mod, hA.mn, hA.mx, hA.eq, hA.lt, hA.le, hA.nat, hA.R, hA.lep, hA.ltp, hA.seq, inR, n_cast, Int.ofNat_eq_natCast, Option.getD_some, Option.getD_none] at *
  refine hA.loopI (fun m s => ∃ (i : Int) (xs : List (List E)), 0 ≤ i ∧ m + i = es.length ∧ xs = ((List.range i.toNat).map (dp ns)).map ir ∧ s = ⟨[(4, .int i), (3, .own 0 xs), (0, .e (.sl es))], [.front xs.length 1]⟩) es.length _
    ((Weak.zown 3 1 rfl).trans (Weak.keep (env' := [(4, .int 0), (3, .own 0 []), (0, .e (.sl es))]) ⟨rfl, rfl, rfl, trivial⟩)) ⟨0, [], by omega, by omega, rfl, rfl⟩ ?_
  rintro m s K1 ⟨i, xs, i0, i1, hxs, rfl⟩ hK
  have hxsl : xs.length = i.toNat := by rw [hxs]; simp
  obtain ⟨kx, hkx⟩ : ∃ k, k = xs.length := ⟨_, rfl⟩
  rw [← hkx]
  by_cases hi : (0 : Int) ≤ i ∧ i < es.length
  · obtain ⟨K, N, M, S, T, Ks, x, e0, hx, e1⟩ := node_at he hi
    have hks : kidsAt ns i.toNat = Ks := by rw [kidsAt, e0]
    have hmem : (⟨K, N, M, S, T, Ks⟩ : Nd) ∈ ns := by
      rw [← e0]
      simp [List.getD, show i.toNat < ns.length by omega]
    have hkl1 : Ks.length ≤ 1048576 := hkl _ hmem
    have hxl : x.length = Ks.length := by rw [hx]; simp
    obtain ⟨hs1, hs2⟩ := hst i.toNat (by omega)
    have hkid := (st_kids hs1).1
    rw [hks] at hkid
    have hdp := dp_eq hs1
    rw [hks] at hdp
    obtain ⟨f, hf⟩ : ∃ f : Int → Int, f = fun j => dp ns j.toNat := ⟨_, rfl⟩
    rw [← hf] at hdp
    have hK2 : ∀ (zs : List (List E)) (mm : Nat) (env : List (Nat × D)) (hp : List O), zs = xs ++ [[E.int (dp ns i.toNat)]] → mm = zs.length → hpF hp 0 = .front mm 1 → subW [(4, .int (i + 1)), (3, .own 0 zs), (0, .e (.sl es))] env → K1 ⟨env, hp⟩ := fun zs mm env hp g1 g2 g3 g4 =>
      hK _ (m - 1) _ (by omega) (Weak.ren (l0 := []) [0] (fun t => [(4, .int (i + 1)), (3, .own (t 0) zs), (0, .e (.sl es))]) (fun _ => [.front zs.length 1]) rfl g4 ⟨by rw [g3, g2], trivial⟩ ⟨fun t => rfl, rfl, fun t => rfl, by intro o ho; rw [List.mem_singleton] at ho; subst ho; rfl⟩)
        ⟨i + 1, zs, by omega, by omega, by rw [g1, hxs, show (i + 1).toNat = i.toNat + 1 by omega, range_succ_map, List.map_append]; rfl, rfl⟩
    clear hK
    have e8 : A.lt i ze = true := by rw [hA.lt]; exact decide_eq_true (by omega)
    cbv
    repeat' first | with_reducible rfl | (simp only [e8]; cbv) | with_reducible refine And.intro ?_ ?_ | ((with_reducible intro hcc); first | (cases hcc; done) | skip) | ((with_reducible show goC _ _ _ _ _ _ _ _); cbv) | ((with_reducible show goOps _ _ _ _ _); cbv) | ((with_reducible show okWr _ _ = _); rfl) | ((with_reducible refine hA.len es _ _ _ _ fun z hz hb => ?_); (have e6 := hze.trans hz.symm); subst e6; cbv) | ((with_reducible refine hA.fin_pl _ _ _ ?_); cbv) | ((with_reducible refine hA.len _ _ _ _ _ fun z hz hb => ?_); cbv) | ((with_reducible refine hA.off _ _ _ _ fun b hb => ?_); cbv) | ((with_reducible refine hA.plus _ _ _ fun b hb => ?_); cbv) | ((with_reducible refine hA.app _ _ _ _ _ ⟨?_, fun zs m hzs hm => ?_⟩); rotate_left; cbv) | ((with_reducible refine hA.app0 _ _ _ ⟨?_, fun m hm => ?_⟩); rotate_left; cbv) | ((with_reducible refine hA.alt _ _ (Or.inl ?_)); cbv) | ((with_reducible refine hA.appv _ _ _ _ _ _ ⟨?_, fun bb m ds hbb hm hds => ?_⟩); rotate_left; cbv) | ((with_reducible refine hA.vcut _ _ _ _ ⟨?_, fun cs hcs => ?_⟩); rotate_left; cbv) | ((with_reducible refine hA.appw _ _ _ _ _ _ _ ⟨?_, fun bb m ds hbb hm hds => ?_⟩); rotate_left; cbv) | ((with_reducible refine hA.sapp _ _ _ ⟨?_, fun sl hsl => ?_⟩); rotate_left; cbv) | (simp only [hA.natLit, hA.natOf, hA.natCast]; cbv)
    all_goals try simp only [hA.add, hA.sub, hA.mul, hA.neg, hA.div, hA.mod, hA.mn, hA.mx, hA.eq, hA.lt, hA.le, hA.nat, hA.R, hA.lep, hA.ltp, hA.seq, inR, n_cast, Int.ofNat_eq_natCast, Option.getD_some, Option.getD_none] at *
    refine hA.loopI (fun m s => ∃ (d k : Int), 0 ≤ d ∧ d ≤ 2000000 ∧ 0 ≤ k ∧ m + k = x.length ∧ max d (maxL f (Ks.drop k.toNat)) = maxL f Ks ∧ s = ⟨[(6, .int k), (5, .int d), (4, .int i), (3, .own 0 xs), (0, .e (.sl es))], [.front kx 1]⟩) x.length _
      (Weak.keep (env' := [(6, .int 0), (5, .int 0), (4, .int i), (3, .own 0 xs), (0, .e (.sl es))]) ⟨rfl, rfl, rfl, rfl, rfl, trivial⟩) ⟨0, 0, by omega, by omega, by omega, by omega, by have := maxL_nonneg f Ks; show max 0 (maxL f Ks) = _; omega, rfl⟩ ?_
    rintro m2 s K2 ⟨d, k, d0, d1, k0, k1, hmax, rfl⟩ hK
    by_cases hk : (0 : Int) ≤ k ∧ k < x.length
    · obtain ⟨kid, e2, q2⟩ := int_at hx hk
      obtain ⟨c0, c1, c2⟩ := hkid kid (getI q2)
      have hxk : (0 : Int) ≤ kid ∧ kid < xs.length := by omega
      obtain ⟨v, hv⟩ : ∃ v, v = f kid := ⟨_, rfl⟩
      have e3 : xs.getD kid.toNat [] = [E.int v] := by
        have : (List.range i.toNat)[kid.toNat]? = some kid.toNat := List.getElem?_range (by omega)
        rw [hxs, hv, hf]
        simp [List.getD, this]
      have hdr : Ks.drop k.toNat = kid :: Ks.drop (k.toNat + 1) := by
        obtain ⟨a, c⟩ := List.getElem?_eq_some_iff.1 q2
        rw [List.drop_eq_getElem_cons a, c]
      rw [hdr, maxL, ← hv] at hmax
      have hvb : v ≤ 2000000 := by
        rw [hv, hf]
        exact (hst kid.toNat (by omega)).2
      have hK3 : ∀ (d' : Int) (env : List (Nat × D)), d' = max d v → subL [(6, .int (k + 1)), (5, .int d'), (4, .int i), (3, .own 0 xs), (0, .e (.sl es))] env → K2 ⟨env, [.front kx 1]⟩ := fun d' env g1 g2 =>
        hK _ (m2 - 1) _ (by omega) (Weak.keep g2) ⟨d', k + 1, by omega, by omega, by omega, by omega, by rw [show (k + 1).toNat = k.toNat + 1 by omega]; omega, rfl⟩
      clear hK hK2 hmax hdr hv hdp hst hkid
      cbv
      repeat' first | with_reducible rfl | with_reducible refine And.intro ?_ ?_ | ((with_reducible intro hcc); first | (cases hcc; done) | skip) | ((with_reducible show goC _ _ _ _ _ _ _ _); cbv) | ((with_reducible show goOps _ _ _ _ _); cbv) | ((with_reducible show okWr _ _ = _); rfl) | ((with_reducible refine hA.row x _ _ ⟨hk, fun row hrow => ?_⟩); rw [e2] at hrow; subst hrow; cbv) | ((with_reducible refine hA.row es i _ ⟨hi, fun row hrow => ?_⟩); rw [e1] at hrow; subst hrow; cbv) | ((with_reducible refine hA.row xs kid _ ⟨hxk, fun row hrow => ?_⟩); rw [e3] at hrow; subst hrow; cbv) | ((with_reducible refine hA.fin_pl _ _ _ ?_); cbv) | ((with_reducible refine hA.len _ _ _ _ _ fun z hz hb => ?_); cbv) | ((with_reducible refine hA.off _ _ _ _ fun b hb => ?_); cbv) | ((with_reducible refine hA.plus _ _ _ fun b hb => ?_); cbv) | ((with_reducible refine hA.app _ _ _ _ _ ⟨?_, fun zs m hzs hm => ?_⟩); rotate_left; cbv) | ((with_reducible refine hA.app0 _ _ _ ⟨?_, fun m hm => ?_⟩); rotate_left; cbv) | ((with_reducible refine hA.alt _ _ (Or.inl ?_)); cbv) | ((with_reducible refine hA.appv _ _ _ _ _ _ ⟨?_, fun bb m ds hbb hm hds => ?_⟩); rotate_left; cbv) | ((with_reducible refine hA.vcut _ _ _ _ ⟨?_, fun cs hcs => ?_⟩); rotate_left; cbv) | ((with_reducible refine hA.appw _ _ _ _ _ _ _ ⟨?_, fun bb m ds hbb hm hds => ?_⟩); rotate_left; cbv) | ((with_reducible refine hA.sapp _ _ _ ⟨?_, fun sl hsl => ?_⟩); rotate_left; cbv) | (simp only [hA.natLit, hA.natOf, hA.natCast]; cbv)
      all_goals try simp only [hA.add, hA.sub, hA.mul, hA.neg, hA.div, hA.mod, hA.mn, hA.mx, hA.eq, hA.lt, hA.le, hA.nat, hA.R, hA.lep, hA.ltp, hA.seq, inR, n_cast, Int.ofNat_eq_natCast, Option.getD_some, Option.getD_none] at *
      all_goals first
        | omega
        | exact hK3 _ _ (by have q := of_decide_eq_true (by assumption : decide (d < v) = true); omega) ⟨rfl, rfl, rfl, rfl, rfl, trivial⟩
        | exact hK3 _ _ (by have q := of_decide_eq_false (by assumption : decide (d < v) = false); omega) ⟨rfl, rfl, rfl, rfl, rfl, trivial⟩
        | (exfalso; clear hK3; simp only [decide_eq_true_eq, decide_eq_false_iff_not] at *; omega)
        | (trace_state; fail)
    · have hd : Ks.drop k.toNat = [] := by rw [List.drop_eq_nil_iff]; omega
      rw [hd] at hmax
      have hdd : dp ns i.toNat = d + 1 := by rw [hdp, ← hmax]; simp only [maxL]; omega
      rw [hdd] at hK2
      clear hK hmax hst hkid hdp
      cbv
      repeat' first | with_reducible rfl | with_reducible refine And.intro ?_ ?_ | ((with_reducible intro hcc); first | (cases hcc; done) | skip) | ((with_reducible show goC _ _ _ _ _ _ _ _); cbv) | ((with_reducible show goOps _ _ _ _ _); cbv) | ((with_reducible show okWr _ _ = _); rfl) | ((with_reducible refine hA.row es i _ ⟨hi, fun row hrow => ?_⟩); rw [e1] at hrow; subst hrow; cbv) | ((with_reducible refine hA.row x _ _ ?_); exfalso; simp only [hA.lt, hA.sub, decide_eq_true_eq, decide_eq_false_iff_not, n_cast] at *; omega) | ((with_reducible refine hA.fin_pl _ _ _ ?_); cbv) | ((with_reducible refine hA.len _ _ _ _ _ fun z hz hb => ?_); cbv) | ((with_reducible refine hA.off _ _ _ _ fun b hb => ?_); cbv) | ((with_reducible refine hA.plus _ _ _ fun b hb => ?_); cbv) | ((with_reducible refine hA.app _ _ _ _ _ ⟨?_, fun zs m hzs hm => ?_⟩); rotate_left; cbv) | ((with_reducible refine hA.app0 _ _ _ ⟨?_, fun m hm => ?_⟩); rotate_left; cbv) | ((with_reducible refine hA.alt _ _ (Or.inl ?_)); cbv) | ((with_reducible refine hA.appv _ _ _ _ _ _ ⟨?_, fun bb m ds hbb hm hds => ?_⟩); rotate_left; cbv) | ((with_reducible refine hA.vcut _ _ _ _ ⟨?_, fun cs hcs => ?_⟩); rotate_left; cbv) | ((with_reducible refine hA.appw _ _ _ _ _ _ _ ⟨?_, fun bb m ds hbb hm hds => ?_⟩); rotate_left; cbv) | ((with_reducible refine hA.sapp _ _ _ ⟨?_, fun sl hsl => ?_⟩); rotate_left; cbv) | (simp only [hA.natLit, hA.natOf, hA.natCast]; cbv)
      all_goals try simp only [hA.add, hA.sub, hA.mul, hA.neg, hA.div, hA.mod, hA.mn, hA.mx, hA.eq, hA.lt, hA.le, hA.nat, hA.R, hA.lep, hA.ltp, hA.seq, inR, n_cast, Int.ofNat_eq_natCast, Option.getD_some, Option.getD_none] at *
      all_goals first
        | omega
        | (rw [hkx]; done)
        | exact ⟨rfl, trivial⟩
        | exact hK2 _ _ _ _ hzs hm rfl ⟨.inl rfl, .inl rfl, .inl rfl, trivial⟩
        | (simp only [List.length_cons, List.length_nil]; omega)
        | (exfalso; clear hK2; simp only [decide_eq_true_eq, decide_eq_false_iff_not] at *; omega)
        | (trace_state; fail)
  · have hxe : xs = ts := by rw [hxs, hts, show i.toNat = ns.length by omega]
    clear hK hxs
    have e8 : A.lt i ze = false := by rw [hA.lt]; exact decide_eq_false (by omega)
    cbv
    repeat' first | with_reducible rfl | (simp only [e8]; cbv) | with_reducible refine And.intro ?_ ?_ | ((with_reducible intro hcc); first | (cases hcc; done) | skip) | ((with_reducible show goC _ _ _ _ _ _ _ _); cbv) | ((with_reducible show goOps _ _ _ _ _); cbv) | ((with_reducible show okWr _ _ = _); rfl) | ((with_reducible refine hA.len es _ _ _ _ fun z hz hb => ?_); (have e6 := hze.trans hz.symm); subst e6; cbv) | ((with_reducible refine hA.fin_pl _ _ _ ?_); cbv) | ((with_reducible refine hA.len _ _ _ _ _ fun z hz hb => ?_); cbv) | ((with_reducible refine hA.off _ _ _ _ fun b hb => ?_); cbv) | ((with_reducible refine hA.plus _ _ _ fun b hb => ?_); cbv) | ((with_reducible refine hA.app _ _ _ _ _ ⟨?_, fun zs m hzs hm => ?_⟩); rotate_left; cbv) | ((with_reducible refine hA.app0 _ _ _ ⟨?_, fun m hm => ?_⟩); rotate_left; cbv) | ((with_reducible refine hA.alt _ _ (Or.inl ?_)); cbv) | ((with_reducible refine hA.appv _ _ _ _ _ _ ⟨?_, fun bb m ds hbb hm hds => ?_⟩); rotate_left; cbv) | ((with_reducible refine hA.vcut _ _ _ _ ⟨?_, fun cs hcs => ?_⟩); rotate_left; cbv) | ((with_reducible refine hA.appw _ _ _ _ _ _ _ ⟨?_, fun bb m ds hbb hm hds => ?_⟩); rotate_left; cbv) | ((with_reducible refine hA.sapp _ _ _ ⟨?_, fun sl hsl => ?_⟩); rotate_left; cbv) | (simp only [hA.natLit, hA.natOf, hA.natCast]; cbv)
    all_goals try simp only [hA.add, hA.sub, hA.mul, hA.neg, hA.div, hA.mod, hA.mn, hA.mx, hA.eq, hA.lt, hA.le, hA.nat, hA.R, hA.lep, hA.ltp, hA.seq, inR, n_cast, Int.ofNat_eq_natCast, Option.getD_some, Option.getD_none] at *
    all_goals first
      | (rw [hxe])
      | omega
      | (exfalso; simp only [decide_eq_true_eq, decide_eq_false_iff_not] at *; omega)
      | (trace_state; fail))
end Go.Proofs.Ytfplalbognalkaa.Ab
/- Trees are valid, by the specification. -/
namespace Go.Proofs.Ytfplalbognalkaa.Ab
open Go
set_option maxRecDepth 100000 in
set_option maxHeartbeats 2000000 in
theorem ok23 (ns : List Nd) (es : List (List E)) (he : es = ns.map ndr) (hkl : ∀ d ∈ ns, d.Ks.length ≤ 1048576) (hlen : es.length ≤ 1048576) (r : Bool) (hr : r = true ↔ sOk ns) :
    Plain Try.prog 23 [.agg [.e (.sl es)]] (.bool r) := okOf mixed p23 fun A P hA hP => (by
  have hel : es.length = ns.length := by rw [he]; simp
  obtain ⟨ze, hze⟩ : ∃ z : Int, z = es.length := ⟨_, rfl⟩
  have ff : ¬ sOk ns → r = false := fun h => by cases r <;> first | rfl | exact absurd (hr.1 rfl) h
  by_cases h1 : 1 ≤ es.length ∧ es.length ≤ 10000
  case neg =>
    have hr2 := ff fun h => h1 (by have := h.1; omega)
    by_cases h0 : es.length < 1
    · have e1 : A.lt ze 1 = true := by rw [hA.lt]; exact decide_eq_true (by omega)
      cbv
      repeat' first | with_reducible rfl | (simp only [e1]; cbv) | with_reducible refine And.intro ?_ ?_ | ((with_reducible intro hcc); first | (cases hcc; done) | skip) | ((with_reducible show goC _ _ _ _ _ _ _ _); cbv) | ((with_reducible show goOps _ _ _ _ _); cbv) | ((with_reducible show okWr _ _ = _); rfl) | ((with_reducible refine hA.len es _ _ _ _ fun z hz hb => ?_); (have e6 := hze.trans hz.symm); subst e6; cbv) | ((with_reducible show A.call _ _ _ _ false _ _ _ _); refine callK_no hA (.int 0) ?_; cbv) | ((with_reducible refine hA.fin_pl _ _ _ ?_); cbv) | ((with_reducible refine hA.len _ _ _ _ _ fun z hz hb => ?_); cbv) | ((with_reducible refine hA.off _ _ _ _ fun b hb => ?_); cbv) | ((with_reducible refine hA.plus _ _ _ fun b hb => ?_); cbv) | ((with_reducible refine hA.sapp _ _ _ ⟨?_, fun sl hsl => ?_⟩); rotate_left; cbv) | ((with_reducible refine hA.gb0 true _ ?_); cbv) | ((with_reducible refine hA.gb0 false _ ?_); cbv) | ((with_reducible refine hA.gb _ _ fun vb hvb => ?_); cbv) | (simp only [hA.natLit, hA.natOf, hA.natCast]; cbv)
      all_goals try simp only [hA.add, hA.sub, hA.mul, hA.neg, hA.div, hA.mod, hA.mn, hA.mx, hA.eq, hA.lt, hA.le, hA.nat, hA.R, hA.lep, hA.ltp, hA.seq, inR, n_cast, Int.ofNat_eq_natCast, Option.getD_some, Option.getD_none] at *
      all_goals first
        | (rw [hr2]; done)
        | omega
        | (trace_state; fail)
    · have e1 : A.lt ze 1 = false := by rw [hA.lt]; exact decide_eq_false (by omega)
      have e2 : A.lt 10000 ze = true := by rw [hA.lt]; exact decide_eq_true (by omega)
      cbv
      repeat' first | with_reducible rfl | (simp only [e2]; cbv) | (simp only [e1]; cbv) | with_reducible refine And.intro ?_ ?_ | ((with_reducible intro hcc); first | (cases hcc; done) | skip) | ((with_reducible show goC _ _ _ _ _ _ _ _); cbv) | ((with_reducible show goOps _ _ _ _ _); cbv) | ((with_reducible show okWr _ _ = _); rfl) | ((with_reducible refine hA.len es _ _ _ _ fun z hz hb => ?_); (have e6 := hze.trans hz.symm); subst e6; cbv) | ((with_reducible show A.call _ _ _ _ false _ _ _ _); refine callK_no hA (.int 0) ?_; cbv) | ((with_reducible refine hA.fin_pl _ _ _ ?_); cbv) | ((with_reducible refine hA.len _ _ _ _ _ fun z hz hb => ?_); cbv) | ((with_reducible refine hA.off _ _ _ _ fun b hb => ?_); cbv) | ((with_reducible refine hA.plus _ _ _ fun b hb => ?_); cbv) | ((with_reducible refine hA.sapp _ _ _ ⟨?_, fun sl hsl => ?_⟩); rotate_left; cbv) | ((with_reducible refine hA.gb0 true _ ?_); cbv) | ((with_reducible refine hA.gb0 false _ ?_); cbv) | ((with_reducible refine hA.gb _ _ fun vb hvb => ?_); cbv) | (simp only [hA.natLit, hA.natOf, hA.natCast]; cbv)
      all_goals try simp only [hA.add, hA.sub, hA.mul, hA.neg, hA.div, hA.mod, hA.mn, hA.mx, hA.eq, hA.lt, hA.le, hA.nat, hA.R, hA.lep, hA.ltp, hA.seq, inR, n_cast, Int.ofNat_eq_natCast, Option.getD_some, Option.getD_none] at *
      all_goals first
        | (rw [hr2]; done)
        | omega
        | (trace_state; fail)
  case pos =>
    have e1 : A.lt ze 1 = false := by rw [hA.lt]; exact decide_eq_false (by omega)
    have e2 : A.lt 10000 ze = false := by rw [hA.lt]; exact decide_eq_false (by omega)
    obtain ⟨zl, hzl⟩ : ∃ z, z = A.sub ze 1 := ⟨_, rfl⟩
    have hzl2 : zl = ze - 1 := by rw [hzl, hA.sub]
    have hil : (0 : Int) ≤ zl ∧ zl < es.length := by omega
    have hzn : zl.toNat = ns.length - 1 := by omega
    have h228 := ok63 ns es he hkl _ zl (Nat.lt_succ_self _) hil hlen
    rw [hzn] at h228
    obtain ⟨c, hc⟩ : ∃ c, c = st ns (ns.length - 1) := ⟨_, rfl⟩
    rw [← hc] at h228
    by_cases hc0 : c = 0
    case neg =>
      have hr2 := ff fun h => hc0 (by rw [hc]; exact h.2.1)
      have e3 : A.eq c 0 = false := by rw [hA.eq]; exact decide_eq_false hc0
      cbv
      repeat' first | with_reducible rfl | (simp only [e3]; cbv) | (simp only [← hzl]; cbv) | (simp only [e2]; cbv) | (simp only [e1]; cbv) | with_reducible refine And.intro ?_ ?_ | ((with_reducible intro hcc); first | (cases hcc; done) | skip) | ((with_reducible show goC _ _ _ _ _ _ _ _); cbv) | ((with_reducible show goOps _ _ _ _ _); cbv) | ((with_reducible show okWr _ _ = _); rfl) | ((with_reducible refine callK_eq hA hP ?_ ?_ ?_ (Wks.refl _) (fun _ _ => h228)); exact rfl; exact rfl; cbv) | ((with_reducible refine hA.len es _ _ _ _ fun z hz hb => ?_); (have e6 := hze.trans hz.symm); subst e6; cbv) | ((with_reducible refine hA.fin_pl _ _ _ ?_); cbv) | ((with_reducible refine hA.len _ _ _ _ _ fun z hz hb => ?_); cbv) | ((with_reducible refine hA.off _ _ _ _ fun b hb => ?_); cbv) | ((with_reducible refine hA.plus _ _ _ fun b hb => ?_); cbv) | ((with_reducible refine hA.sapp _ _ _ ⟨?_, fun sl hsl => ?_⟩); rotate_left; cbv) | ((with_reducible refine hA.gb0 true _ ?_); cbv) | ((with_reducible refine hA.gb0 false _ ?_); cbv) | ((with_reducible refine hA.gb _ _ fun vb hvb => ?_); cbv) | (simp only [hA.natLit, hA.natOf, hA.natCast]; cbv)
      all_goals try simp only [hA.add, hA.sub, hA.mul, hA.neg, hA.div, hA.mod, hA.mn, hA.mx, hA.eq, hA.lt, hA.le, hA.nat, hA.R, hA.lep, hA.ltp, hA.seq, inR, n_cast, Int.ofNat_eq_natCast, Option.getD_some, Option.getD_none] at *
      all_goals first
        | (rw [hr2]; done)
        | omega
        | (trace_state; fail)
    case pos =>
      have e3 : A.eq c 0 = true := by rw [hA.eq]; exact decide_eq_true hc0
      have hall : ∀ i, i < ns.length → 0 ≤ st ns i ∧ dp ns i ≤ dp ns (ns.length - 1) := fun i hi =>
        st_all ns.length (ns.length - 1) (by omega) (by omega) i (by omega) (by omega)
      have hdpb : ∀ (n i : Nat), i < n → i < ns.length → dp ns i ≤ i + 1 := fun n => by
        induction n with
        | zero => intro i h; omega
        | succ n ih =>
          intro i h hi
          have h0 := (hall i hi).1
          rw [dp_eq h0]
          have hk := (st_kids h0).1
          have : ∀ l : List Int, (∀ k ∈ l, k ∈ kidsAt ns i) → maxL (fun j => dp ns j.toNat) l ≤ i := fun l => by
            induction l with
            | nil => intro _; simp only [maxL]; omega
            | cons a l ihl =>
              intro hl
              simp only [maxL]
              have b := ihl fun k hk => hl k (by simp [hk])
              obtain ⟨c1, c2, _⟩ := hk a (hl a (by simp))
              have := ih a.toNat (by omega) (by omega)
              omega
          have := this _ fun k hk => hk
          omega
      have h230 := ok65 ns es he hkl hlen fun i hi => ⟨(hall i hi).1, by have := hdpb _ i (Nat.lt_succ_self _) hi; omega⟩
      obtain ⟨ts, hts⟩ : ∃ ts, ts = ((List.range ns.length).map (dp ns)).map ir := ⟨_, rfl⟩
      rw [← hts] at h230
      have htl : ts.length = es.length := by rw [hts, hel]; simp
      have f3 : ∀ i, i < ns.length → sRow ns i = false → r = false := fun i hi h => ff fun q => by
        have := q.2.2.1 i hi; rw [h] at this; cases this
      obtain ⟨K, N, M, S, T, Ks, x, g0, hx, g1⟩ := node_at he hil
      have hKA : kAt ns (ns.length - 1 : Nat) = K := by rw [show ((ns.length - 1 : Nat) : Int) = zl by omega]; exact kAt_at g0
      obtain ⟨qK, hqK⟩ : ∃ b, b = isQu K := ⟨_, rfl⟩
      have h231 := ok66 K
      rw [← hqK] at h231
      obtain ⟨dl, hdl⟩ : ∃ d, d = dp ns (ns.length - 1) := ⟨_, rfl⟩
      have htr : ts.getD zl.toNat [] = [E.int dl] := by
        have : (List.range ns.length)[zl.toNat]? = some zl.toNat := List.getElem?_range (by omega)
        rw [hzn] at this
        rw [hts, hdl]
        simp [List.getD, this, hzn]
      have hilt : (0 : Int) ≤ zl ∧ zl < ts.length := by omega
      have f4 : (∀ i, i < ns.length → sRow ns i = true) → r = (qK && decide (dl ≤ 200)) := fun h => by
        rw [Bool.eq_iff_iff, hr, Bool.and_eq_true, decide_eq_true_eq, hqK, hdl]
        constructor
        · intro q; exact ⟨by rw [← hKA]; exact q.2.2.2.1, q.2.2.2.2⟩
        · intro q; exact ⟨by omega, by rw [← hc]; exact hc0, h, by rw [hKA]; exact q.1, q.2⟩
      clear hr ff
      cbv
      repeat' first | with_reducible rfl | (simp only [e3]; cbv) | (simp only [← hzl]; cbv) | (simp only [e2]; cbv) | (simp only [e1]; cbv) | with_reducible refine And.intro ?_ ?_ | ((with_reducible intro hcc); first | (cases hcc; done) | skip) | ((with_reducible show goC _ _ _ _ _ _ _ _); cbv) | ((with_reducible show goOps _ _ _ _ _); cbv) | ((with_reducible show okWr _ _ = _); rfl) | ((with_reducible refine callK_eq hA hP ?_ ?_ ?_ (Wks.refl _) (fun _ _ => h228)); exact rfl; exact rfl; cbv) | ((with_reducible refine hA.len es _ _ _ _ fun z hz hb => ?_); (have e6 := hze.trans hz.symm); subst e6; cbv) | ((with_reducible refine hA.fin_pl _ _ _ ?_); cbv) | ((with_reducible refine hA.len _ _ _ _ _ fun z hz hb => ?_); cbv) | ((with_reducible refine hA.off _ _ _ _ fun b hb => ?_); cbv) | ((with_reducible refine hA.plus _ _ _ fun b hb => ?_); cbv) | ((with_reducible refine hA.sapp _ _ _ ⟨?_, fun sl hsl => ?_⟩); rotate_left; cbv) | ((with_reducible refine hA.gb0 true _ ?_); cbv) | ((with_reducible refine hA.gb0 false _ ?_); cbv) | ((with_reducible refine hA.gb _ _ fun vb hvb => ?_); cbv) | (simp only [hA.natLit, hA.natOf, hA.natCast]; cbv)
      all_goals try simp only [hA.add, hA.sub, hA.mul, hA.neg, hA.div, hA.mod, hA.mn, hA.mx, hA.eq, hA.lt, hA.le, hA.nat, hA.R, hA.lep, hA.ltp, hA.seq, inR, n_cast, Int.ofNat_eq_natCast, Option.getD_some, Option.getD_none] at *
      all_goals try omega
      have hzl := hzl2.trans (hA.sub ze 1).symm
      refine hA.loopI (fun m s => ∃ (i : Int), 0 ≤ i ∧ m + i = es.length ∧ (∀ j : Nat, (j : Int) < i → sRow ns j = true) ∧ s = ⟨[(4, .int i), (3, .e (.sl es)), (2, .bool false)], []⟩) es.length _
        (Weak.gc (env' := [(4, .int 0), (3, .e (.sl es)), (2, .bool false)]) ⟨rfl, rfl, rfl, trivial⟩ rfl) ⟨0, by omega, by omega, (fun j h => by omega), rfl⟩ ?_
      rintro m s K' ⟨i, i0, i1, i2, rfl⟩ hK
      by_cases hi : (0 : Int) ≤ i ∧ i < es.length
      · have e8 : A.lt i ze = true := by rw [hA.lt]; exact decide_eq_true (by omega)
        have hs := (st_kids (hall i.toNat (by omega)).1).1
        have h229 := ok64 ns es he i hi (fun k hk => by have := hs k hk; omega) (by
          have : ns.getD i.toNat default ∈ ns := by simp [List.getD, show i.toNat < ns.length by omega]
          exact hkl _ this)
        obtain ⟨b, hb⟩ : ∃ b, b = sRow ns i.toNat := ⟨_, rfl⟩
        have h229 : Plain Try.prog 64 [.e (.sl es), .int i] (.bool b) := by rw [hb]; exact h229
        have hf := f3 i.toNat (by omega)
        rw [← hb] at hf
        have hK2 : ∀ env : List (Nat × D), b = true → subL [(4, .int (i + 1)), (3, .e (.sl es)), (2, .bool false)] env → K' ⟨env, []⟩ := fun env g1 g2 =>
          hK _ (m - 1) _ (by omega) (Weak.keep g2) ⟨i + 1, by omega, by omega, (fun j h => by
            by_cases hji : (j : Int) < i
            · exact i2 j hji
            · have : j = i.toNat := by omega
              rw [this, ← hb]; exact g1), rfl⟩
        clear hK hb f3 f4 hall hdpb hs i2 h228 h230
        cases b
        all_goals
          cbv
          repeat' first | with_reducible rfl | (simp only [e8]; cbv) | with_reducible refine And.intro ?_ ?_ | ((with_reducible intro hcc); first | (cases hcc; done) | skip) | ((with_reducible show goC _ _ _ _ _ _ _ _); cbv) | ((with_reducible show goOps _ _ _ _ _); cbv) | ((with_reducible show okWr _ _ = _); rfl) | ((with_reducible refine callK_eq hA hP ?_ ?_ ?_ (Wks.refl _) (fun _ _ => h229)); exact rfl; exact rfl; cbv) | ((with_reducible refine hA.len es _ _ _ _ fun z hz hb => ?_); (have e6 := hze.trans hz.symm); subst e6; cbv) | ((with_reducible refine hA.fin_pl _ _ _ ?_); cbv) | ((with_reducible refine hA.len _ _ _ _ _ fun z hz hb => ?_); cbv) | ((with_reducible refine hA.off _ _ _ _ fun b hb => ?_); cbv) | ((with_reducible refine hA.plus _ _ _ fun b hb => ?_); cbv) | ((with_reducible refine hA.sapp _ _ _ ⟨?_, fun sl hsl => ?_⟩); rotate_left; cbv) | ((with_reducible refine hA.gb0 true _ ?_); cbv) | ((with_reducible refine hA.gb0 false _ ?_); cbv) | ((with_reducible refine hA.gb _ _ fun vb hvb => ?_); cbv) | (simp only [hA.natLit, hA.natOf, hA.natCast]; cbv)
          all_goals try simp only [hA.add, hA.sub, hA.mul, hA.neg, hA.div, hA.mod, hA.mn, hA.mx, hA.eq, hA.lt, hA.le, hA.nat, hA.R, hA.lep, hA.ltp, hA.seq, inR, n_cast, Int.ofNat_eq_natCast, Option.getD_some, Option.getD_none] at *
          all_goals first
            | omega
            | (rw [hf (by first | exact rfl | exact trivial)]; done)
            | exact hK2 _ (by first | exact rfl | exact trivial) ⟨rfl, rfl, rfl, trivial⟩
            | (trace_state; fail)
      · have e8 : A.lt i ze = false := by rw [hA.lt]; exact decide_eq_false (by omega)
        have hr2 := f4 fun j hj => i2 j (by omega)
        clear hK f3 f4 hall hdpb i2
        cases qK
        all_goals
          cbv
          repeat' first | with_reducible rfl | (simp only [← hzl]; cbv) | (simp only [e8]; cbv) | with_reducible refine And.intro ?_ ?_ | ((with_reducible intro hcc); first | (cases hcc; done) | skip) | ((with_reducible show goC _ _ _ _ _ _ _ _); cbv) | ((with_reducible show goOps _ _ _ _ _); cbv) | ((with_reducible show okWr _ _ = _); rfl) | ((with_reducible refine callK_eq hA hP ?_ ?_ ?_ (Wks.refl _) (fun _ _ => h230)); exact rfl; exact rfl; cbv) | ((with_reducible refine callK_eq hA hP ?_ ?_ ?_ (Wks.refl _) (fun _ _ => h231)); exact rfl; exact rfl; cbv) | ((with_reducible refine hA.len es _ _ _ _ fun z hz hb => ?_); (have e6 := hze.trans hz.symm); subst e6; cbv) | ((with_reducible refine hA.row es zl _ ⟨hil, fun row hrow => ?_⟩); rw [g1] at hrow; subst hrow; cbv) | ((with_reducible refine hA.row ts zl _ ⟨hilt, fun row hrow => ?_⟩); rw [htr] at hrow; subst hrow; cbv) | ((with_reducible refine hA.row0 ts _ _ fun p row => ?_); cbv) | ((with_reducible refine hA.fin_pl _ _ _ ?_); cbv) | ((with_reducible refine hA.len _ _ _ _ _ fun z hz hb => ?_); cbv) | ((with_reducible refine hA.off _ _ _ _ fun b hb => ?_); cbv) | ((with_reducible refine hA.plus _ _ _ fun b hb => ?_); cbv) | ((with_reducible refine hA.sapp _ _ _ ⟨?_, fun sl hsl => ?_⟩); rotate_left; cbv) | ((with_reducible refine hA.gb0 true _ ?_); cbv) | ((with_reducible refine hA.gb0 false _ ?_); cbv) | ((with_reducible refine hA.gb _ _ fun vb hvb => ?_); cbv) | (simp only [hA.natLit, hA.natOf, hA.natCast]; cbv)
          all_goals try simp only [hA.add, hA.sub, hA.mul, hA.neg, hA.div, hA.mod, hA.mn, hA.mx, hA.eq, hA.lt, hA.le, hA.nat, hA.R, hA.lep, hA.ltp, hA.seq, inR, n_cast, Int.ofNat_eq_natCast, Option.getD_some, Option.getD_none] at *
          all_goals first
            | omega
            | (rw [hr2]; done)
            | (rw [hr2]; rfl)
            | (rw [hr2]; simp; done)
            | (subst_vars; rw [hr2]; simp; done)
            | (rw [hr2, hvb]; simp; done)
            | (trace_state; fail))
end Go.Proofs.Ytfplalbognalkaa.Ab
/- A node's fields, by the program. -/
namespace Go.Proofs.Ytfplalbognalkaa.Ab
open Go
theorem fld_len0 {ks : List Int} {x : List (List E)} (h : x.length = ks.length) : decide (ks = []) = decide ((x.length : Int) = 0) := by
  rw [h]; cases ks with
  | nil => rfl
  | cons a r => simp; omega
end Go.Proofs.Ytfplalbognalkaa.Ab
/- A node's fields, by the program. -/
namespace Go.Proofs.Ytfplalbognalkaa.Ab
open Go
set_option maxRecDepth 100000 in
set_option maxHeartbeats 16000000 in
theorem ok68a (K N M : Int) (S T : List UInt8) (Ks : List Int) (x1 : List (List E)) (ks : List Int) (x : List (List E)) (hx : x = ks.map ir) (hxn : x.length ≤ 1048576) (hK : K = 1 ∨ K = 2 ∨ K = 3 ∨ K = 4 ∨ K = 5) :
    Plain Try.prog 68 [.agg [.int K, .int N, .int M, .str S, .str T, .e (.sl x1)], .e (.sl x)] (.bool (fOk ⟨K, N, M, S, T, Ks⟩ ks)) := okOf mixed p68 fun A P hA hP => (by
  have hxl : x.length = ks.length := by rw [hx]; simp
  obtain ⟨r, hr⟩ : ∃ r, r = fOk ⟨K, N, M, S, T, Ks⟩ ks := ⟨_, rfl⟩
  rw [← hr]
  obtain ⟨zx, hzx⟩ : ∃ z : Int, z = x.length := ⟨_, rfl⟩
  have h272 := ok120 K N M S T x1 ks x hx hxn
  obtain ⟨bP, hbP⟩ : ∃ b, b = blockP N ks := ⟨_, rfl⟩
  rw [← hbP] at h272
  have h69S := ok119 S
  obtain ⟨nS, hnS⟩ : ∃ b, b = nameB S := ⟨_, rfl⟩
  rw [← hnS] at h69S
  have h69T := ok119 T
  obtain ⟨nT, hnT⟩ : ∃ b, b = nameB T := ⟨_, rfl⟩
  rw [← hnT] at h69T
  have h6 := ok121 fok274 (fun k => ok122 k) ks x hx 2
  obtain ⟨a6, ha6⟩ : ∃ b, b = (decide ((2 : Int) ≤ ks.length) && ks.all fun k => decide (k = 6)) := ⟨_, rfl⟩
  rw [← ha6] at h6
  have hS := ok121 fok275 (fun k => ok123 k) ks x hx 2
  obtain ⟨aS, haS⟩ : ∃ b, b = (decide ((2 : Int) ≤ ks.length) && ks.all isSc) := ⟨_, rfl⟩
  rw [← haS] at hS
  have hC := ok121 fok276 (fun k => ok124 k) ks x hx 2
  obtain ⟨aC, haC⟩ : ∃ b, b = (decide ((2 : Int) ≤ ks.length) && ks.all isCo) := ⟨_, rfl⟩
  rw [← haC] at hC
  obtain ⟨k0, hk0⟩ : ∃ k, k = ks.getD 0 0 := ⟨_, rfl⟩
  obtain ⟨k1, hk1⟩ : ∃ k, k = ks.getD 1 0 := ⟨_, rfl⟩
  have e0 : 1 ≤ x.length → x.getD (0 : Int).toNat [] = [E.int k0] := fun h => by
    obtain ⟨p, e, q⟩ := int_at hx (n := 0) ⟨Int.le_refl 0, by omega⟩
    have q' : ks[0]? = some p := q
    rw [e, hk0]; simp [List.getD, q']
  have e1 : 2 ≤ x.length → x.getD (1 : Int).toNat [] = [E.int k1] := fun h => by
    obtain ⟨p, e, q⟩ := int_at hx (n := 1) ⟨by omega, by omega⟩
    have q' : ks[1]? = some p := q
    rw [e, hk1]; simp [List.getD, q']
  have g0 := ok123 k0
  obtain ⟨s0, hs0⟩ : ∃ b, b = isSc k0 := ⟨_, rfl⟩
  rw [← hs0] at g0
  have g1 := ok69 k0
  obtain ⟨q0, hq0⟩ : ∃ b, b = isQu k0 := ⟨_, rfl⟩
  rw [← hq0] at g1
  have g2 := ok124 k0
  obtain ⟨c0, hc0⟩ : ∃ b, b = isCo k0 := ⟨_, rfl⟩
  rw [← hc0] at g2
  have g3 := ok69 k1
  obtain ⟨q1, hq1⟩ : ∃ b, b = isQu k1 := ⟨_, rfl⟩
  rw [← hq1] at g3
  obtain ⟨L0, hL0⟩ : ∃ b, b = decide (ks = []) := ⟨_, rfl⟩
  obtain ⟨L1, hL1⟩ : ∃ b, b = decide (ks.length = 1) := ⟨_, rfl⟩
  obtain ⟨L2, hL2⟩ : ∃ b, b = decide (ks.length = 2) := ⟨_, rfl⟩
  have m0 : A.eq zx 0 = L0 := by rw [hA.eq, hL0, fld_len0 hxl, hzx]
  have m1 : A.eq zx 1 = L1 := by rw [hA.eq, hL1, hzx, hxl]; congr 1; apply propext; omega
  have m2 : A.eq zx 2 = L2 := by rw [hA.eq, hL2, hzx, hxl]; congr 1; apply propext; omega
  have t8 : L2 = true → aS = ks.all isSc := fun h => by
    rw [hL2, decide_eq_true_eq] at h
    rw [haS, decide_eq_true (by omega), Bool.true_and]
  have t7 : (decide (2 ≤ ks.length) && ks.all fun k => decide (k = 6)) = a6 := by rw [ha6]; congr 1; congr 1; apply propext; omega
  have t9 : (decide (2 ≤ ks.length) && ks.all isCo) = aC := by rw [haC]; congr 1; congr 1; apply propext; omega
  have t8' : (L2 && ks.all isSc) = (L2 && aS) := by
    cases L2 with
    | true => rw [t8 rfl]
    | false => rfl
  have hr2 : r = fOk ⟨K, N, M, S, T, Ks⟩ ks := hr
  unfold fOk at hr2
  rw [show most = (999999999999999999 : Int) from rfl] at hr2
  simp only [noTx, ← hL0, ← hL1, ← hL2, ← hbP, ← hnS, ← hnT, t7, t8', t9, ← hk0, ← hk1, ← hs0, ← hq0, ← hc0, ← hq1] at hr2
  have u1 := hA.eq K 1
  have u2 := hA.eq K 2
  have u3 := hA.eq K 3
  have u4 := hA.eq K 4
  have u5 := hA.eq K 5
  have u6 := hA.eq K 6
  have u7 := hA.eq K 7
  have u8 := hA.eq K 8
  have u9 := hA.eq K 9
  have u10 := hA.eq K 10
  have u11 := hA.eq K 11
  have u12 := hA.eq K 12
  have u13 := hA.eq K 13
  have u14 := hA.eq K 14
  have u15 := hA.eq K 15
  have hl : (x.length = 1 ∧ L1 = true ∧ L2 = false) ∨ (x.length = 2 ∧ L1 = false ∧ L2 = true) ∨ (L1 = false ∧ L2 = false) := by
    rw [hL1, hL2, hxl]
    by_cases a : ks.length = 1
    · exact .inl ⟨a, by simp [a], by simp [a]⟩
    · by_cases b : ks.length = 2
      · exact .inr (.inl ⟨b, by simp [b], by simp [b]⟩)
      · exact .inr (.inr ⟨by simp [a], by simp [b]⟩)
  clear hr hbP hnS hnT ha6 haS haC hk0 hk1 hs0 hq0 hc0 hq1 hL0 hL1 hL2 t7 t8 t8' t9 hx hxl
  have w4 : decide (N = if M = 1 then 0 else 1) = (bif decide (M = 1) then decide (N = 0) else decide (N = 1)) := by by_cases h : M = 1 <;> simp [h]
  simp only [w4, Bool.decide_and, Bool.decide_or] at hr2
  obtain ⟨btS, hbtS⟩ : ∃ b, b = decide (S = []) := ⟨_, rfl⟩
  have vtS : A.seq S [] = btS := by rw [hA.seq, hbtS]
  obtain ⟨btT, hbtT⟩ : ∃ b, b = decide (T = []) := ⟨_, rfl⟩
  have vtT : A.seq T [] = btT := by rw [hA.seq, hbtT]
  obtain ⟨bM0, hbM0⟩ : ∃ b, b = decide (M = 0) := ⟨_, rfl⟩
  have vM0 : A.eq M 0 = bM0 := by rw [hA.eq, hbM0]
  obtain ⟨bM1, hbM1⟩ : ∃ b, b = decide (M = 1) := ⟨_, rfl⟩
  have vM1 : A.eq M 1 = bM1 := by rw [hA.eq, hbM1]
  obtain ⟨bN0, hbN0⟩ : ∃ b, b = decide (N = 0) := ⟨_, rfl⟩
  have vN0 : A.eq N 0 = bN0 := by rw [hA.eq, hbN0]
  obtain ⟨bN1, hbN1⟩ : ∃ b, b = decide (N = 1) := ⟨_, rfl⟩
  have vN1 : A.eq N 1 = bN1 := by rw [hA.eq, hbN1]
  obtain ⟨bN2, hbN2⟩ : ∃ b, b = decide (N = 2) := ⟨_, rfl⟩
  have vN2 : A.eq N 2 = bN2 := by rw [hA.eq, hbN2]
  obtain ⟨blo, hblo⟩ : ∃ b, b = decide (-999999999999999999 ≤ N) := ⟨_, rfl⟩
  have vlo : A.le (-999999999999999999) N = blo := by rw [hA.le, hblo]
  obtain ⟨bhi, hbhi⟩ : ∃ b, b = decide (N ≤ 999999999999999999) := ⟨_, rfl⟩
  have vhi : A.le N 999999999999999999 = bhi := by rw [hA.le, hbhi]
  obtain ⟨bn0, hbn0⟩ : ∃ b, b = decide (0 ≤ N) := ⟨_, rfl⟩
  have vn0 : A.le 0 N = bn0 := by rw [hA.le, hbn0]
  obtain ⟨bn1, hbn1⟩ : ∃ b, b = decide (1 ≤ N) := ⟨_, rfl⟩
  have vn1 : A.le 1 N = bn1 := by rw [hA.le, hbn1]
  obtain ⟨bl1, hbl1⟩ : ∃ b, b = decide (1 ≤ M) := ⟨_, rfl⟩
  have vl1 : A.le 1 M = bl1 := by rw [hA.le, hbl1]
  obtain ⟨bl4, hbl4⟩ : ∃ b, b = decide (M ≤ 4) := ⟨_, rfl⟩
  have vl4 : A.le M 4 = bl4 := by rw [hA.le, hbl4]
  obtain ⟨bl6, hbl6⟩ : ∃ b, b = decide (M ≤ 6) := ⟨_, rfl⟩
  have vl6 : A.le M 6 = bl6 := by rw [hA.le, hbl6]
  simp only [← hbtS, ← hbtT, ← hbM0, ← hbM1, ← hbN0, ← hbN1, ← hbN2, ← hblo, ← hbhi, ← hbn0, ← hbn1, ← hbl1, ← hbl4, ← hbl6] at hr2
  clear hbtS hbtT hbM0 hbM1 hbN0 hbN1 hbN2 hblo hbhi hbn0 hbn1 hbl1 hbl4 hbl6 w4
  rcases hK with rfl | rfl | rfl | rfl | rfl
  all_goals simp only [Int.reduceEq, decide_true, decide_false, if_true, if_false, or_true, true_or, or_self] at u1 u2 u3 u4 u5 u6 u7 u8 u9 u10 u11 u12 u13 u14 u15 hr2
  all_goals clear hl
  all_goals
    try have e0 := e0 (by omega)
    try have e1 := e1 (by omega)
    try have hin0 : (0 : Int) ≤ 0 ∧ (0 : Int) < x.length := ⟨Int.le_refl 0, by omega⟩
    try have hin1 : (0 : Int) ≤ 1 ∧ (1 : Int) < x.length := ⟨by omega, by omega⟩
    cbv
    repeat' first | with_reducible rfl | (simp only [m2]; cbv) | (simp only [m1]; cbv) | (simp only [m0]; cbv) | (simp only [u1, u2, u3, u4, u5, u6, u7, u8, u9, u10, u11, u12, u13, u14, u15]; cbv) | (simp only [vtS, vtT, vM0, vM1, vN0, vN1, vN2, vlo, vhi, vn0, vn1, vl1, vl4, vl6]; cbv) | (simp only [ite_self]; cbv) | with_reducible refine And.intro ?_ ?_ | ((with_reducible intro hcc); first | (cases hcc; done) | skip) | ((with_reducible show goC _ _ _ _ _ _ _ _); cbv) | ((with_reducible show goOps _ _ _ _ _); cbv) | ((with_reducible show okWr _ _ = _); rfl) | ((with_reducible refine callK_eq hA hP ?_ ?_ ?_ (Wks.refl _) (fun _ _ => h272)); exact rfl; exact rfl; cbv) | ((with_reducible refine callK_eq hA hP ?_ ?_ ?_ (Wks.refl _) (fun _ _ => h69S)); exact rfl; exact rfl; cbv) | ((with_reducible refine callK_eq hA hP ?_ ?_ ?_ (Wks.refl _) (fun _ _ => h69T)); exact rfl; exact rfl; cbv) | ((with_reducible refine callK_eq hA hP ?_ ?_ ?_ (Wks.refl _) (fun _ _ => h6)); exact rfl; exact rfl; cbv) | ((with_reducible refine callK_eq hA hP ?_ ?_ ?_ (Wks.refl _) (fun _ _ => hS)); exact rfl; exact rfl; cbv) | ((with_reducible refine callK_eq hA hP ?_ ?_ ?_ (Wks.refl _) (fun _ _ => hC)); exact rfl; exact rfl; cbv) | ((with_reducible refine callK_eq hA hP ?_ ?_ ?_ (Wks.refl _) (fun _ _ => g0)); exact rfl; exact rfl; cbv) | ((with_reducible refine callK_eq hA hP ?_ ?_ ?_ (Wks.refl _) (fun _ _ => g1)); exact rfl; exact rfl; cbv) | ((with_reducible refine callK_eq hA hP ?_ ?_ ?_ (Wks.refl _) (fun _ _ => g2)); exact rfl; exact rfl; cbv) | ((with_reducible refine callK_eq hA hP ?_ ?_ ?_ (Wks.refl _) (fun _ _ => g3)); exact rfl; exact rfl; cbv) | ((with_reducible refine hA.len x _ _ _ _ fun z hz hb => ?_); (have e6 := hzx.trans hz.symm); subst e6; cbv) | ((with_reducible refine hA.row x _ _ ⟨hin0, fun row hrow => ?_⟩); have hrow := hrow.trans e0; subst hrow; cbv) | ((with_reducible refine hA.row x _ _ ⟨hin1, fun row hrow => ?_⟩); have hrow := hrow.trans e1; subst hrow; cbv) | ((with_reducible show A.row x _ _); cases vb; rotate_left; (exfalso; revert hvb; split <;> (intro h; cases h; done)); cbv) | ((with_reducible refine hA.row0 x _ _ fun p row => ?_); cbv) | ((with_reducible show A.call _ _ _ _ false _ _ _ _); refine callK_no hA (.bool false) ?_; cbv) | ((with_reducible refine hA.fin_pl _ _ _ ?_); cbv) | ((with_reducible refine hA.len _ _ _ _ _ fun z hz hb => ?_); cbv) | ((with_reducible refine hA.off _ _ _ _ fun b hb => ?_); cbv) | ((with_reducible refine hA.plus _ _ _ fun b hb => ?_); cbv) | ((with_reducible refine hA.gb0 true _ ?_); cbv) | ((with_reducible refine hA.gb0 false _ ?_); cbv) | ((with_reducible refine hA.gb _ _ fun vb hvb => ?_); cbv) | (simp only [hA.natLit, hA.natOf, hA.natCast]; cbv)
    all_goals try simp only [hA.add, hA.sub, hA.mul, hA.neg, hA.div, hA.mod, hA.mn, hA.mx, hA.eq, hA.lt, hA.le, hA.nat, hA.R, hA.lep, hA.ltp, hA.seq, inR, n_cast, Int.ofNat_eq_natCast, Option.getD_some, Option.getD_none] at *
    all_goals (clear h272 h69S h69T h6 hS hC g0 g1 g2 g3 u1 u2 u3 u4 u5 u6 u7 u8 u9 u10 u11 u12 u13 u14 u15 m0 m1 m2 vtS vtT vM0 vM1 vN0 vN1 vN2 vlo vhi vn0 vn1 vl1 vl4 vl6 e0 e1 hzx hxn hP)
    all_goals first
      | (rw [hr2]; done)
      | (cases bM0 <;> first | rfl | trivial | (simp; done))
      | (split <;> first | trivial | (rename_i hq; revert hq; cases bN1 <;> simp; done))
      | (split <;> first | rfl | trivial | assumption | (simp_all; done))
      | (rw [hr2]; simp_all; done)
      | (rw [hr2]; grind)
      | (trace_state; fail))
end Go.Proofs.Ytfplalbognalkaa.Ab
/- A node's fields, by the program. -/
namespace Go.Proofs.Ytfplalbognalkaa.Ab
open Go
set_option maxRecDepth 100000 in
set_option maxHeartbeats 16000000 in
theorem ok68b (K N M : Int) (S T : List UInt8) (Ks : List Int) (x1 : List (List E)) (ks : List Int) (x : List (List E)) (hx : x = ks.map ir) (hxn : x.length ≤ 1048576) (hK : K = 6 ∨ K = 7 ∨ K = 8 ∨ K = 14 ∨ K = 15) :
    Plain Try.prog 68 [.agg [.int K, .int N, .int M, .str S, .str T, .e (.sl x1)], .e (.sl x)] (.bool (fOk ⟨K, N, M, S, T, Ks⟩ ks)) := okOf mixed p68 fun A P hA hP => (by
  have hxl : x.length = ks.length := by rw [hx]; simp
  obtain ⟨r, hr⟩ : ∃ r, r = fOk ⟨K, N, M, S, T, Ks⟩ ks := ⟨_, rfl⟩
  rw [← hr]
  obtain ⟨zx, hzx⟩ : ∃ z : Int, z = x.length := ⟨_, rfl⟩
  have h272 := ok120 K N M S T x1 ks x hx hxn
  obtain ⟨bP, hbP⟩ : ∃ b, b = blockP N ks := ⟨_, rfl⟩
  rw [← hbP] at h272
  have h69S := ok119 S
  obtain ⟨nS, hnS⟩ : ∃ b, b = nameB S := ⟨_, rfl⟩
  rw [← hnS] at h69S
  have h69T := ok119 T
  obtain ⟨nT, hnT⟩ : ∃ b, b = nameB T := ⟨_, rfl⟩
  rw [← hnT] at h69T
  have h6 := ok121 fok274 (fun k => ok122 k) ks x hx 2
  obtain ⟨a6, ha6⟩ : ∃ b, b = (decide ((2 : Int) ≤ ks.length) && ks.all fun k => decide (k = 6)) := ⟨_, rfl⟩
  rw [← ha6] at h6
  have hS := ok121 fok275 (fun k => ok123 k) ks x hx 2
  obtain ⟨aS, haS⟩ : ∃ b, b = (decide ((2 : Int) ≤ ks.length) && ks.all isSc) := ⟨_, rfl⟩
  rw [← haS] at hS
  have hC := ok121 fok276 (fun k => ok124 k) ks x hx 2
  obtain ⟨aC, haC⟩ : ∃ b, b = (decide ((2 : Int) ≤ ks.length) && ks.all isCo) := ⟨_, rfl⟩
  rw [← haC] at hC
  obtain ⟨k0, hk0⟩ : ∃ k, k = ks.getD 0 0 := ⟨_, rfl⟩
  obtain ⟨k1, hk1⟩ : ∃ k, k = ks.getD 1 0 := ⟨_, rfl⟩
  have e0 : 1 ≤ x.length → x.getD (0 : Int).toNat [] = [E.int k0] := fun h => by
    obtain ⟨p, e, q⟩ := int_at hx (n := 0) ⟨Int.le_refl 0, by omega⟩
    have q' : ks[0]? = some p := q
    rw [e, hk0]; simp [List.getD, q']
  have e1 : 2 ≤ x.length → x.getD (1 : Int).toNat [] = [E.int k1] := fun h => by
    obtain ⟨p, e, q⟩ := int_at hx (n := 1) ⟨by omega, by omega⟩
    have q' : ks[1]? = some p := q
    rw [e, hk1]; simp [List.getD, q']
  have g0 := ok123 k0
  obtain ⟨s0, hs0⟩ : ∃ b, b = isSc k0 := ⟨_, rfl⟩
  rw [← hs0] at g0
  have g1 := ok69 k0
  obtain ⟨q0, hq0⟩ : ∃ b, b = isQu k0 := ⟨_, rfl⟩
  rw [← hq0] at g1
  have g2 := ok124 k0
  obtain ⟨c0, hc0⟩ : ∃ b, b = isCo k0 := ⟨_, rfl⟩
  rw [← hc0] at g2
  have g3 := ok69 k1
  obtain ⟨q1, hq1⟩ : ∃ b, b = isQu k1 := ⟨_, rfl⟩
  rw [← hq1] at g3
  obtain ⟨L0, hL0⟩ : ∃ b, b = decide (ks = []) := ⟨_, rfl⟩
  obtain ⟨L1, hL1⟩ : ∃ b, b = decide (ks.length = 1) := ⟨_, rfl⟩
  obtain ⟨L2, hL2⟩ : ∃ b, b = decide (ks.length = 2) := ⟨_, rfl⟩
  have m0 : A.eq zx 0 = L0 := by rw [hA.eq, hL0, fld_len0 hxl, hzx]
  have m1 : A.eq zx 1 = L1 := by rw [hA.eq, hL1, hzx, hxl]; congr 1; apply propext; omega
  have m2 : A.eq zx 2 = L2 := by rw [hA.eq, hL2, hzx, hxl]; congr 1; apply propext; omega
  have t8 : L2 = true → aS = ks.all isSc := fun h => by
    rw [hL2, decide_eq_true_eq] at h
    rw [haS, decide_eq_true (by omega), Bool.true_and]
  have t7 : (decide (2 ≤ ks.length) && ks.all fun k => decide (k = 6)) = a6 := by rw [ha6]; congr 1; congr 1; apply propext; omega
  have t9 : (decide (2 ≤ ks.length) && ks.all isCo) = aC := by rw [haC]; congr 1; congr 1; apply propext; omega
  have t8' : (L2 && ks.all isSc) = (L2 && aS) := by
    cases L2 with
    | true => rw [t8 rfl]
    | false => rfl
  have hr2 : r = fOk ⟨K, N, M, S, T, Ks⟩ ks := hr
  unfold fOk at hr2
  rw [show most = (999999999999999999 : Int) from rfl] at hr2
  simp only [noTx, ← hL0, ← hL1, ← hL2, ← hbP, ← hnS, ← hnT, t7, t8', t9, ← hk0, ← hk1, ← hs0, ← hq0, ← hc0, ← hq1] at hr2
  have u1 := hA.eq K 1
  have u2 := hA.eq K 2
  have u3 := hA.eq K 3
  have u4 := hA.eq K 4
  have u5 := hA.eq K 5
  have u6 := hA.eq K 6
  have u7 := hA.eq K 7
  have u8 := hA.eq K 8
  have u9 := hA.eq K 9
  have u10 := hA.eq K 10
  have u11 := hA.eq K 11
  have u12 := hA.eq K 12
  have u13 := hA.eq K 13
  have u14 := hA.eq K 14
  have u15 := hA.eq K 15
  have hl : (x.length = 1 ∧ L1 = true ∧ L2 = false) ∨ (x.length = 2 ∧ L1 = false ∧ L2 = true) ∨ (L1 = false ∧ L2 = false) := by
    rw [hL1, hL2, hxl]
    by_cases a : ks.length = 1
    · exact .inl ⟨a, by simp [a], by simp [a]⟩
    · by_cases b : ks.length = 2
      · exact .inr (.inl ⟨b, by simp [b], by simp [b]⟩)
      · exact .inr (.inr ⟨by simp [a], by simp [b]⟩)
  clear hr hbP hnS hnT ha6 haS haC hk0 hk1 hs0 hq0 hc0 hq1 hL0 hL1 hL2 t7 t8 t8' t9 hx hxl
  have w4 : decide (N = if M = 1 then 0 else 1) = (bif decide (M = 1) then decide (N = 0) else decide (N = 1)) := by by_cases h : M = 1 <;> simp [h]
  simp only [w4, Bool.decide_and, Bool.decide_or] at hr2
  obtain ⟨btS, hbtS⟩ : ∃ b, b = decide (S = []) := ⟨_, rfl⟩
  have vtS : A.seq S [] = btS := by rw [hA.seq, hbtS]
  obtain ⟨btT, hbtT⟩ : ∃ b, b = decide (T = []) := ⟨_, rfl⟩
  have vtT : A.seq T [] = btT := by rw [hA.seq, hbtT]
  obtain ⟨bM0, hbM0⟩ : ∃ b, b = decide (M = 0) := ⟨_, rfl⟩
  have vM0 : A.eq M 0 = bM0 := by rw [hA.eq, hbM0]
  obtain ⟨bM1, hbM1⟩ : ∃ b, b = decide (M = 1) := ⟨_, rfl⟩
  have vM1 : A.eq M 1 = bM1 := by rw [hA.eq, hbM1]
  obtain ⟨bN0, hbN0⟩ : ∃ b, b = decide (N = 0) := ⟨_, rfl⟩
  have vN0 : A.eq N 0 = bN0 := by rw [hA.eq, hbN0]
  obtain ⟨bN1, hbN1⟩ : ∃ b, b = decide (N = 1) := ⟨_, rfl⟩
  have vN1 : A.eq N 1 = bN1 := by rw [hA.eq, hbN1]
  obtain ⟨bN2, hbN2⟩ : ∃ b, b = decide (N = 2) := ⟨_, rfl⟩
  have vN2 : A.eq N 2 = bN2 := by rw [hA.eq, hbN2]
  obtain ⟨blo, hblo⟩ : ∃ b, b = decide (-999999999999999999 ≤ N) := ⟨_, rfl⟩
  have vlo : A.le (-999999999999999999) N = blo := by rw [hA.le, hblo]
  obtain ⟨bhi, hbhi⟩ : ∃ b, b = decide (N ≤ 999999999999999999) := ⟨_, rfl⟩
  have vhi : A.le N 999999999999999999 = bhi := by rw [hA.le, hbhi]
  obtain ⟨bn0, hbn0⟩ : ∃ b, b = decide (0 ≤ N) := ⟨_, rfl⟩
  have vn0 : A.le 0 N = bn0 := by rw [hA.le, hbn0]
  obtain ⟨bn1, hbn1⟩ : ∃ b, b = decide (1 ≤ N) := ⟨_, rfl⟩
  have vn1 : A.le 1 N = bn1 := by rw [hA.le, hbn1]
  obtain ⟨bl1, hbl1⟩ : ∃ b, b = decide (1 ≤ M) := ⟨_, rfl⟩
  have vl1 : A.le 1 M = bl1 := by rw [hA.le, hbl1]
  obtain ⟨bl4, hbl4⟩ : ∃ b, b = decide (M ≤ 4) := ⟨_, rfl⟩
  have vl4 : A.le M 4 = bl4 := by rw [hA.le, hbl4]
  obtain ⟨bl6, hbl6⟩ : ∃ b, b = decide (M ≤ 6) := ⟨_, rfl⟩
  have vl6 : A.le M 6 = bl6 := by rw [hA.le, hbl6]
  simp only [← hbtS, ← hbtT, ← hbM0, ← hbM1, ← hbN0, ← hbN1, ← hbN2, ← hblo, ← hbhi, ← hbn0, ← hbn1, ← hbl1, ← hbl4, ← hbl6] at hr2
  clear hbtS hbtT hbM0 hbM1 hbN0 hbN1 hbN2 hblo hbhi hbn0 hbn1 hbl1 hbl4 hbl6 w4
  rcases hK with rfl | rfl | rfl | rfl | rfl
  all_goals simp only [Int.reduceEq, decide_true, decide_false, if_true, if_false, or_true, true_or, or_self] at u1 u2 u3 u4 u5 u6 u7 u8 u9 u10 u11 u12 u13 u14 u15 hr2
  all_goals clear hl
  all_goals
    try have e0 := e0 (by omega)
    try have e1 := e1 (by omega)
    try have hin0 : (0 : Int) ≤ 0 ∧ (0 : Int) < x.length := ⟨Int.le_refl 0, by omega⟩
    try have hin1 : (0 : Int) ≤ 1 ∧ (1 : Int) < x.length := ⟨by omega, by omega⟩
    cbv
    repeat' first | with_reducible rfl | (simp only [m2]; cbv) | (simp only [m1]; cbv) | (simp only [m0]; cbv) | (simp only [u1, u2, u3, u4, u5, u6, u7, u8, u9, u10, u11, u12, u13, u14, u15]; cbv) | (simp only [vtS, vtT, vM0, vM1, vN0, vN1, vN2, vlo, vhi, vn0, vn1, vl1, vl4, vl6]; cbv) | (simp only [ite_self]; cbv) | with_reducible refine And.intro ?_ ?_ | ((with_reducible intro hcc); first | (cases hcc; done) | skip) | ((with_reducible show goC _ _ _ _ _ _ _ _); cbv) | ((with_reducible show goOps _ _ _ _ _); cbv) | ((with_reducible show okWr _ _ = _); rfl) | ((with_reducible refine callK_eq hA hP ?_ ?_ ?_ (Wks.refl _) (fun _ _ => h272)); exact rfl; exact rfl; cbv) | ((with_reducible refine callK_eq hA hP ?_ ?_ ?_ (Wks.refl _) (fun _ _ => h69S)); exact rfl; exact rfl; cbv) | ((with_reducible refine callK_eq hA hP ?_ ?_ ?_ (Wks.refl _) (fun _ _ => h69T)); exact rfl; exact rfl; cbv) | ((with_reducible refine callK_eq hA hP ?_ ?_ ?_ (Wks.refl _) (fun _ _ => h6)); exact rfl; exact rfl; cbv) | ((with_reducible refine callK_eq hA hP ?_ ?_ ?_ (Wks.refl _) (fun _ _ => hS)); exact rfl; exact rfl; cbv) | ((with_reducible refine callK_eq hA hP ?_ ?_ ?_ (Wks.refl _) (fun _ _ => hC)); exact rfl; exact rfl; cbv) | ((with_reducible refine callK_eq hA hP ?_ ?_ ?_ (Wks.refl _) (fun _ _ => g0)); exact rfl; exact rfl; cbv) | ((with_reducible refine callK_eq hA hP ?_ ?_ ?_ (Wks.refl _) (fun _ _ => g1)); exact rfl; exact rfl; cbv) | ((with_reducible refine callK_eq hA hP ?_ ?_ ?_ (Wks.refl _) (fun _ _ => g2)); exact rfl; exact rfl; cbv) | ((with_reducible refine callK_eq hA hP ?_ ?_ ?_ (Wks.refl _) (fun _ _ => g3)); exact rfl; exact rfl; cbv) | ((with_reducible refine hA.len x _ _ _ _ fun z hz hb => ?_); (have e6 := hzx.trans hz.symm); subst e6; cbv) | ((with_reducible refine hA.row x _ _ ⟨hin0, fun row hrow => ?_⟩); have hrow := hrow.trans e0; subst hrow; cbv) | ((with_reducible refine hA.row x _ _ ⟨hin1, fun row hrow => ?_⟩); have hrow := hrow.trans e1; subst hrow; cbv) | ((with_reducible show A.row x _ _); cases vb; rotate_left; (exfalso; revert hvb; split <;> (intro h; cases h; done)); cbv) | ((with_reducible refine hA.row0 x _ _ fun p row => ?_); cbv) | ((with_reducible show A.call _ _ _ _ false _ _ _ _); refine callK_no hA (.bool false) ?_; cbv) | ((with_reducible refine hA.fin_pl _ _ _ ?_); cbv) | ((with_reducible refine hA.len _ _ _ _ _ fun z hz hb => ?_); cbv) | ((with_reducible refine hA.off _ _ _ _ fun b hb => ?_); cbv) | ((with_reducible refine hA.plus _ _ _ fun b hb => ?_); cbv) | ((with_reducible refine hA.gb0 true _ ?_); cbv) | ((with_reducible refine hA.gb0 false _ ?_); cbv) | ((with_reducible refine hA.gb _ _ fun vb hvb => ?_); cbv) | (simp only [hA.natLit, hA.natOf, hA.natCast]; cbv)
    all_goals try simp only [hA.add, hA.sub, hA.mul, hA.neg, hA.div, hA.mod, hA.mn, hA.mx, hA.eq, hA.lt, hA.le, hA.nat, hA.R, hA.lep, hA.ltp, hA.seq, inR, n_cast, Int.ofNat_eq_natCast, Option.getD_some, Option.getD_none] at *
    all_goals (clear h272 h69S h69T h6 hS hC g0 g1 g2 g3 u1 u2 u3 u4 u5 u6 u7 u8 u9 u10 u11 u12 u13 u14 u15 m0 m1 m2 vtS vtT vM0 vM1 vN0 vN1 vN2 vlo vhi vn0 vn1 vl1 vl4 vl6 e0 e1 hzx hxn hP)
    all_goals first
      | (rw [hr2]; done)
      | (cases bM0 <;> first | rfl | trivial | (simp; done))
      | (split <;> first | trivial | (rename_i hq; revert hq; cases bN1 <;> simp; done))
      | (split <;> first | rfl | trivial | assumption | (simp_all; done))
      | (rw [hr2]; simp_all; done)
      | (rw [hr2]; grind)
      | (trace_state; fail))
end Go.Proofs.Ytfplalbognalkaa.Ab
/- A node's fields, by the program. -/
namespace Go.Proofs.Ytfplalbognalkaa.Ab
open Go
set_option maxRecDepth 100000 in
set_option maxHeartbeats 16000000 in
theorem ok68c (K N M : Int) (S T : List UInt8) (Ks : List Int) (x1 : List (List E)) (ks : List Int) (x : List (List E)) (hx : x = ks.map ir) (hxn : x.length ≤ 1048576) (hK : K = 9 ∨ K = 10 ∨ K = 11) :
    Plain Try.prog 68 [.agg [.int K, .int N, .int M, .str S, .str T, .e (.sl x1)], .e (.sl x)] (.bool (fOk ⟨K, N, M, S, T, Ks⟩ ks)) := okOf mixed p68 fun A P hA hP => (by
  have hxl : x.length = ks.length := by rw [hx]; simp
  obtain ⟨r, hr⟩ : ∃ r, r = fOk ⟨K, N, M, S, T, Ks⟩ ks := ⟨_, rfl⟩
  rw [← hr]
  obtain ⟨zx, hzx⟩ : ∃ z : Int, z = x.length := ⟨_, rfl⟩
  have h272 := ok120 K N M S T x1 ks x hx hxn
  obtain ⟨bP, hbP⟩ : ∃ b, b = blockP N ks := ⟨_, rfl⟩
  rw [← hbP] at h272
  have h69S := ok119 S
  obtain ⟨nS, hnS⟩ : ∃ b, b = nameB S := ⟨_, rfl⟩
  rw [← hnS] at h69S
  have h69T := ok119 T
  obtain ⟨nT, hnT⟩ : ∃ b, b = nameB T := ⟨_, rfl⟩
  rw [← hnT] at h69T
  have h6 := ok121 fok274 (fun k => ok122 k) ks x hx 2
  obtain ⟨a6, ha6⟩ : ∃ b, b = (decide ((2 : Int) ≤ ks.length) && ks.all fun k => decide (k = 6)) := ⟨_, rfl⟩
  rw [← ha6] at h6
  have hS := ok121 fok275 (fun k => ok123 k) ks x hx 2
  obtain ⟨aS, haS⟩ : ∃ b, b = (decide ((2 : Int) ≤ ks.length) && ks.all isSc) := ⟨_, rfl⟩
  rw [← haS] at hS
  have hC := ok121 fok276 (fun k => ok124 k) ks x hx 2
  obtain ⟨aC, haC⟩ : ∃ b, b = (decide ((2 : Int) ≤ ks.length) && ks.all isCo) := ⟨_, rfl⟩
  rw [← haC] at hC
  obtain ⟨k0, hk0⟩ : ∃ k, k = ks.getD 0 0 := ⟨_, rfl⟩
  obtain ⟨k1, hk1⟩ : ∃ k, k = ks.getD 1 0 := ⟨_, rfl⟩
  have e0 : 1 ≤ x.length → x.getD (0 : Int).toNat [] = [E.int k0] := fun h => by
    obtain ⟨p, e, q⟩ := int_at hx (n := 0) ⟨Int.le_refl 0, by omega⟩
    have q' : ks[0]? = some p := q
    rw [e, hk0]; simp [List.getD, q']
  have e1 : 2 ≤ x.length → x.getD (1 : Int).toNat [] = [E.int k1] := fun h => by
    obtain ⟨p, e, q⟩ := int_at hx (n := 1) ⟨by omega, by omega⟩
    have q' : ks[1]? = some p := q
    rw [e, hk1]; simp [List.getD, q']
  have g0 := ok123 k0
  obtain ⟨s0, hs0⟩ : ∃ b, b = isSc k0 := ⟨_, rfl⟩
  rw [← hs0] at g0
  have g1 := ok69 k0
  obtain ⟨q0, hq0⟩ : ∃ b, b = isQu k0 := ⟨_, rfl⟩
  rw [← hq0] at g1
  have g2 := ok124 k0
  obtain ⟨c0, hc0⟩ : ∃ b, b = isCo k0 := ⟨_, rfl⟩
  rw [← hc0] at g2
  have g3 := ok69 k1
  obtain ⟨q1, hq1⟩ : ∃ b, b = isQu k1 := ⟨_, rfl⟩
  rw [← hq1] at g3
  obtain ⟨L0, hL0⟩ : ∃ b, b = decide (ks = []) := ⟨_, rfl⟩
  obtain ⟨L1, hL1⟩ : ∃ b, b = decide (ks.length = 1) := ⟨_, rfl⟩
  obtain ⟨L2, hL2⟩ : ∃ b, b = decide (ks.length = 2) := ⟨_, rfl⟩
  have m0 : A.eq zx 0 = L0 := by rw [hA.eq, hL0, fld_len0 hxl, hzx]
  have m1 : A.eq zx 1 = L1 := by rw [hA.eq, hL1, hzx, hxl]; congr 1; apply propext; omega
  have m2 : A.eq zx 2 = L2 := by rw [hA.eq, hL2, hzx, hxl]; congr 1; apply propext; omega
  have t8 : L2 = true → aS = ks.all isSc := fun h => by
    rw [hL2, decide_eq_true_eq] at h
    rw [haS, decide_eq_true (by omega), Bool.true_and]
  have t7 : (decide (2 ≤ ks.length) && ks.all fun k => decide (k = 6)) = a6 := by rw [ha6]; congr 1; congr 1; apply propext; omega
  have t9 : (decide (2 ≤ ks.length) && ks.all isCo) = aC := by rw [haC]; congr 1; congr 1; apply propext; omega
  have t8' : (L2 && ks.all isSc) = (L2 && aS) := by
    cases L2 with
    | true => rw [t8 rfl]
    | false => rfl
  have hr2 : r = fOk ⟨K, N, M, S, T, Ks⟩ ks := hr
  unfold fOk at hr2
  rw [show most = (999999999999999999 : Int) from rfl] at hr2
  simp only [noTx, ← hL0, ← hL1, ← hL2, ← hbP, ← hnS, ← hnT, t7, t8', t9, ← hk0, ← hk1, ← hs0, ← hq0, ← hc0, ← hq1] at hr2
  have u1 := hA.eq K 1
  have u2 := hA.eq K 2
  have u3 := hA.eq K 3
  have u4 := hA.eq K 4
  have u5 := hA.eq K 5
  have u6 := hA.eq K 6
  have u7 := hA.eq K 7
  have u8 := hA.eq K 8
  have u9 := hA.eq K 9
  have u10 := hA.eq K 10
  have u11 := hA.eq K 11
  have u12 := hA.eq K 12
  have u13 := hA.eq K 13
  have u14 := hA.eq K 14
  have u15 := hA.eq K 15
  have hl : (x.length = 1 ∧ L1 = true ∧ L2 = false) ∨ (x.length = 2 ∧ L1 = false ∧ L2 = true) ∨ (L1 = false ∧ L2 = false) := by
    rw [hL1, hL2, hxl]
    by_cases a : ks.length = 1
    · exact .inl ⟨a, by simp [a], by simp [a]⟩
    · by_cases b : ks.length = 2
      · exact .inr (.inl ⟨b, by simp [b], by simp [b]⟩)
      · exact .inr (.inr ⟨by simp [a], by simp [b]⟩)
  clear hr hbP hnS hnT ha6 haS haC hk0 hk1 hs0 hq0 hc0 hq1 hL0 hL1 hL2 t7 t8 t8' t9 hx hxl
  have w4 : decide (N = if M = 1 then 0 else 1) = (bif decide (M = 1) then decide (N = 0) else decide (N = 1)) := by by_cases h : M = 1 <;> simp [h]
  simp only [w4, Bool.decide_and, Bool.decide_or] at hr2
  obtain ⟨btS, hbtS⟩ : ∃ b, b = decide (S = []) := ⟨_, rfl⟩
  have vtS : A.seq S [] = btS := by rw [hA.seq, hbtS]
  obtain ⟨btT, hbtT⟩ : ∃ b, b = decide (T = []) := ⟨_, rfl⟩
  have vtT : A.seq T [] = btT := by rw [hA.seq, hbtT]
  obtain ⟨bM0, hbM0⟩ : ∃ b, b = decide (M = 0) := ⟨_, rfl⟩
  have vM0 : A.eq M 0 = bM0 := by rw [hA.eq, hbM0]
  obtain ⟨bM1, hbM1⟩ : ∃ b, b = decide (M = 1) := ⟨_, rfl⟩
  have vM1 : A.eq M 1 = bM1 := by rw [hA.eq, hbM1]
  obtain ⟨bN0, hbN0⟩ : ∃ b, b = decide (N = 0) := ⟨_, rfl⟩
  have vN0 : A.eq N 0 = bN0 := by rw [hA.eq, hbN0]
  obtain ⟨bN1, hbN1⟩ : ∃ b, b = decide (N = 1) := ⟨_, rfl⟩
  have vN1 : A.eq N 1 = bN1 := by rw [hA.eq, hbN1]
  obtain ⟨bN2, hbN2⟩ : ∃ b, b = decide (N = 2) := ⟨_, rfl⟩
  have vN2 : A.eq N 2 = bN2 := by rw [hA.eq, hbN2]
  obtain ⟨blo, hblo⟩ : ∃ b, b = decide (-999999999999999999 ≤ N) := ⟨_, rfl⟩
  have vlo : A.le (-999999999999999999) N = blo := by rw [hA.le, hblo]
  obtain ⟨bhi, hbhi⟩ : ∃ b, b = decide (N ≤ 999999999999999999) := ⟨_, rfl⟩
  have vhi : A.le N 999999999999999999 = bhi := by rw [hA.le, hbhi]
  obtain ⟨bn0, hbn0⟩ : ∃ b, b = decide (0 ≤ N) := ⟨_, rfl⟩
  have vn0 : A.le 0 N = bn0 := by rw [hA.le, hbn0]
  obtain ⟨bn1, hbn1⟩ : ∃ b, b = decide (1 ≤ N) := ⟨_, rfl⟩
  have vn1 : A.le 1 N = bn1 := by rw [hA.le, hbn1]
  obtain ⟨bl1, hbl1⟩ : ∃ b, b = decide (1 ≤ M) := ⟨_, rfl⟩
  have vl1 : A.le 1 M = bl1 := by rw [hA.le, hbl1]
  obtain ⟨bl4, hbl4⟩ : ∃ b, b = decide (M ≤ 4) := ⟨_, rfl⟩
  have vl4 : A.le M 4 = bl4 := by rw [hA.le, hbl4]
  obtain ⟨bl6, hbl6⟩ : ∃ b, b = decide (M ≤ 6) := ⟨_, rfl⟩
  have vl6 : A.le M 6 = bl6 := by rw [hA.le, hbl6]
  simp only [← hbtS, ← hbtT, ← hbM0, ← hbM1, ← hbN0, ← hbN1, ← hbN2, ← hblo, ← hbhi, ← hbn0, ← hbn1, ← hbl1, ← hbl4, ← hbl6] at hr2
  clear hbtS hbtT hbM0 hbM1 hbN0 hbN1 hbN2 hblo hbhi hbn0 hbn1 hbl1 hbl4 hbl6 w4
  rcases hK with rfl | rfl | rfl
  all_goals simp only [Int.reduceEq, decide_true, decide_false, if_true, if_false, or_true, true_or, or_self] at u1 u2 u3 u4 u5 u6 u7 u8 u9 u10 u11 u12 u13 u14 u15 hr2
  all_goals rcases hl with ⟨hl, rfl, rfl⟩ | ⟨hl, rfl, rfl⟩ | ⟨rfl, rfl⟩
  all_goals
    try have e0 := e0 (by omega)
    try have e1 := e1 (by omega)
    try have hin0 : (0 : Int) ≤ 0 ∧ (0 : Int) < x.length := ⟨Int.le_refl 0, by omega⟩
    try have hin1 : (0 : Int) ≤ 1 ∧ (1 : Int) < x.length := ⟨by omega, by omega⟩
    cbv
    repeat' first | with_reducible rfl | (simp only [m2]; cbv) | (simp only [m1]; cbv) | (simp only [m0]; cbv) | (simp only [u1, u2, u3, u4, u5, u6, u7, u8, u9, u10, u11, u12, u13, u14, u15]; cbv) | (simp only [vtS, vtT, vM0, vM1, vN0, vN1, vN2, vlo, vhi, vn0, vn1, vl1, vl4, vl6]; cbv) | (simp only [ite_self]; cbv) | with_reducible refine And.intro ?_ ?_ | ((with_reducible intro hcc); first | (cases hcc; done) | skip) | ((with_reducible show goC _ _ _ _ _ _ _ _); cbv) | ((with_reducible show goOps _ _ _ _ _); cbv) | ((with_reducible show okWr _ _ = _); rfl) | ((with_reducible refine callK_eq hA hP ?_ ?_ ?_ (Wks.refl _) (fun _ _ => h272)); exact rfl; exact rfl; cbv) | ((with_reducible refine callK_eq hA hP ?_ ?_ ?_ (Wks.refl _) (fun _ _ => h69S)); exact rfl; exact rfl; cbv) | ((with_reducible refine callK_eq hA hP ?_ ?_ ?_ (Wks.refl _) (fun _ _ => h69T)); exact rfl; exact rfl; cbv) | ((with_reducible refine callK_eq hA hP ?_ ?_ ?_ (Wks.refl _) (fun _ _ => h6)); exact rfl; exact rfl; cbv) | ((with_reducible refine callK_eq hA hP ?_ ?_ ?_ (Wks.refl _) (fun _ _ => hS)); exact rfl; exact rfl; cbv) | ((with_reducible refine callK_eq hA hP ?_ ?_ ?_ (Wks.refl _) (fun _ _ => hC)); exact rfl; exact rfl; cbv) | ((with_reducible refine callK_eq hA hP ?_ ?_ ?_ (Wks.refl _) (fun _ _ => g0)); exact rfl; exact rfl; cbv) | ((with_reducible refine callK_eq hA hP ?_ ?_ ?_ (Wks.refl _) (fun _ _ => g1)); exact rfl; exact rfl; cbv) | ((with_reducible refine callK_eq hA hP ?_ ?_ ?_ (Wks.refl _) (fun _ _ => g2)); exact rfl; exact rfl; cbv) | ((with_reducible refine callK_eq hA hP ?_ ?_ ?_ (Wks.refl _) (fun _ _ => g3)); exact rfl; exact rfl; cbv) | ((with_reducible refine hA.len x _ _ _ _ fun z hz hb => ?_); (have e6 := hzx.trans hz.symm); subst e6; cbv) | ((with_reducible refine hA.row x _ _ ⟨hin0, fun row hrow => ?_⟩); have hrow := hrow.trans e0; subst hrow; cbv) | ((with_reducible refine hA.row x _ _ ⟨hin1, fun row hrow => ?_⟩); have hrow := hrow.trans e1; subst hrow; cbv) | ((with_reducible show A.row x _ _); cases vb; rotate_left; (exfalso; revert hvb; split <;> (intro h; cases h; done)); cbv) | ((with_reducible refine hA.row0 x _ _ fun p row => ?_); cbv) | ((with_reducible show A.call _ _ _ _ false _ _ _ _); refine callK_no hA (.bool false) ?_; cbv) | ((with_reducible refine hA.fin_pl _ _ _ ?_); cbv) | ((with_reducible refine hA.len _ _ _ _ _ fun z hz hb => ?_); cbv) | ((with_reducible refine hA.off _ _ _ _ fun b hb => ?_); cbv) | ((with_reducible refine hA.plus _ _ _ fun b hb => ?_); cbv) | ((with_reducible refine hA.gb0 true _ ?_); cbv) | ((with_reducible refine hA.gb0 false _ ?_); cbv) | ((with_reducible refine hA.gb _ _ fun vb hvb => ?_); cbv) | (simp only [hA.natLit, hA.natOf, hA.natCast]; cbv)
    all_goals try simp only [hA.add, hA.sub, hA.mul, hA.neg, hA.div, hA.mod, hA.mn, hA.mx, hA.eq, hA.lt, hA.le, hA.nat, hA.R, hA.lep, hA.ltp, hA.seq, inR, n_cast, Int.ofNat_eq_natCast, Option.getD_some, Option.getD_none] at *
    all_goals (clear h272 h69S h69T h6 hS hC g0 g1 g2 g3 u1 u2 u3 u4 u5 u6 u7 u8 u9 u10 u11 u12 u13 u14 u15 m0 m1 m2 vtS vtT vM0 vM1 vN0 vN1 vN2 vlo vhi vn0 vn1 vl1 vl4 vl6 e0 e1 hzx hxn hP)
    all_goals first
      | (rw [hr2]; done)
      | (cases bM0 <;> first | rfl | trivial | (simp; done))
      | (split <;> first | trivial | (rename_i hq; revert hq; cases bN1 <;> simp; done))
      | (split <;> first | rfl | trivial | assumption | (simp_all; done))
      | (rw [hr2]; simp_all; done)
      | (rw [hr2]; grind)
      | (trace_state; fail))
end Go.Proofs.Ytfplalbognalkaa.Ab
/- A node's fields, by the program. -/
namespace Go.Proofs.Ytfplalbognalkaa.Ab
open Go
set_option maxRecDepth 100000 in
set_option maxHeartbeats 16000000 in
theorem ok68d (K N M : Int) (S T : List UInt8) (Ks : List Int) (x1 : List (List E)) (ks : List Int) (x : List (List E)) (hx : x = ks.map ir) (hxn : x.length ≤ 1048576) (hK : K = 12 ∨ K = 13) :
    Plain Try.prog 68 [.agg [.int K, .int N, .int M, .str S, .str T, .e (.sl x1)], .e (.sl x)] (.bool (fOk ⟨K, N, M, S, T, Ks⟩ ks)) := okOf mixed p68 fun A P hA hP => (by
  have hxl : x.length = ks.length := by rw [hx]; simp
  obtain ⟨r, hr⟩ : ∃ r, r = fOk ⟨K, N, M, S, T, Ks⟩ ks := ⟨_, rfl⟩
  rw [← hr]
  obtain ⟨zx, hzx⟩ : ∃ z : Int, z = x.length := ⟨_, rfl⟩
  have h272 := ok120 K N M S T x1 ks x hx hxn
  obtain ⟨bP, hbP⟩ : ∃ b, b = blockP N ks := ⟨_, rfl⟩
  rw [← hbP] at h272
  have h69S := ok119 S
  obtain ⟨nS, hnS⟩ : ∃ b, b = nameB S := ⟨_, rfl⟩
  rw [← hnS] at h69S
  have h69T := ok119 T
  obtain ⟨nT, hnT⟩ : ∃ b, b = nameB T := ⟨_, rfl⟩
  rw [← hnT] at h69T
  have h6 := ok121 fok274 (fun k => ok122 k) ks x hx 2
  obtain ⟨a6, ha6⟩ : ∃ b, b = (decide ((2 : Int) ≤ ks.length) && ks.all fun k => decide (k = 6)) := ⟨_, rfl⟩
  rw [← ha6] at h6
  have hS := ok121 fok275 (fun k => ok123 k) ks x hx 2
  obtain ⟨aS, haS⟩ : ∃ b, b = (decide ((2 : Int) ≤ ks.length) && ks.all isSc) := ⟨_, rfl⟩
  rw [← haS] at hS
  have hC := ok121 fok276 (fun k => ok124 k) ks x hx 2
  obtain ⟨aC, haC⟩ : ∃ b, b = (decide ((2 : Int) ≤ ks.length) && ks.all isCo) := ⟨_, rfl⟩
  rw [← haC] at hC
  obtain ⟨k0, hk0⟩ : ∃ k, k = ks.getD 0 0 := ⟨_, rfl⟩
  obtain ⟨k1, hk1⟩ : ∃ k, k = ks.getD 1 0 := ⟨_, rfl⟩
  have e0 : 1 ≤ x.length → x.getD (0 : Int).toNat [] = [E.int k0] := fun h => by
    obtain ⟨p, e, q⟩ := int_at hx (n := 0) ⟨Int.le_refl 0, by omega⟩
    have q' : ks[0]? = some p := q
    rw [e, hk0]; simp [List.getD, q']
  have e1 : 2 ≤ x.length → x.getD (1 : Int).toNat [] = [E.int k1] := fun h => by
    obtain ⟨p, e, q⟩ := int_at hx (n := 1) ⟨by omega, by omega⟩
    have q' : ks[1]? = some p := q
    rw [e, hk1]; simp [List.getD, q']
  have g0 := ok123 k0
  obtain ⟨s0, hs0⟩ : ∃ b, b = isSc k0 := ⟨_, rfl⟩
  rw [← hs0] at g0
  have g1 := ok69 k0
  obtain ⟨q0, hq0⟩ : ∃ b, b = isQu k0 := ⟨_, rfl⟩
  rw [← hq0] at g1
  have g2 := ok124 k0
  obtain ⟨c0, hc0⟩ : ∃ b, b = isCo k0 := ⟨_, rfl⟩
  rw [← hc0] at g2
  have g3 := ok69 k1
  obtain ⟨q1, hq1⟩ : ∃ b, b = isQu k1 := ⟨_, rfl⟩
  rw [← hq1] at g3
  obtain ⟨L0, hL0⟩ : ∃ b, b = decide (ks = []) := ⟨_, rfl⟩
  obtain ⟨L1, hL1⟩ : ∃ b, b = decide (ks.length = 1) := ⟨_, rfl⟩
  obtain ⟨L2, hL2⟩ : ∃ b, b = decide (ks.length = 2) := ⟨_, rfl⟩
  have m0 : A.eq zx 0 = L0 := by rw [hA.eq, hL0, fld_len0 hxl, hzx]
  have m1 : A.eq zx 1 = L1 := by rw [hA.eq, hL1, hzx, hxl]; congr 1; apply propext; omega
  have m2 : A.eq zx 2 = L2 := by rw [hA.eq, hL2, hzx, hxl]; congr 1; apply propext; omega
  have t8 : L2 = true → aS = ks.all isSc := fun h => by
    rw [hL2, decide_eq_true_eq] at h
    rw [haS, decide_eq_true (by omega), Bool.true_and]
  have t7 : (decide (2 ≤ ks.length) && ks.all fun k => decide (k = 6)) = a6 := by rw [ha6]; congr 1; congr 1; apply propext; omega
  have t9 : (decide (2 ≤ ks.length) && ks.all isCo) = aC := by rw [haC]; congr 1; congr 1; apply propext; omega
  have t8' : (L2 && ks.all isSc) = (L2 && aS) := by
    cases L2 with
    | true => rw [t8 rfl]
    | false => rfl
  have hr2 : r = fOk ⟨K, N, M, S, T, Ks⟩ ks := hr
  unfold fOk at hr2
  rw [show most = (999999999999999999 : Int) from rfl] at hr2
  simp only [noTx, ← hL0, ← hL1, ← hL2, ← hbP, ← hnS, ← hnT, t7, t8', t9, ← hk0, ← hk1, ← hs0, ← hq0, ← hc0, ← hq1] at hr2
  have u1 := hA.eq K 1
  have u2 := hA.eq K 2
  have u3 := hA.eq K 3
  have u4 := hA.eq K 4
  have u5 := hA.eq K 5
  have u6 := hA.eq K 6
  have u7 := hA.eq K 7
  have u8 := hA.eq K 8
  have u9 := hA.eq K 9
  have u10 := hA.eq K 10
  have u11 := hA.eq K 11
  have u12 := hA.eq K 12
  have u13 := hA.eq K 13
  have u14 := hA.eq K 14
  have u15 := hA.eq K 15
  have hl : (x.length = 1 ∧ L1 = true ∧ L2 = false) ∨ (x.length = 2 ∧ L1 = false ∧ L2 = true) ∨ (L1 = false ∧ L2 = false) := by
    rw [hL1, hL2, hxl]
    by_cases a : ks.length = 1
    · exact .inl ⟨a, by simp [a], by simp [a]⟩
    · by_cases b : ks.length = 2
      · exact .inr (.inl ⟨b, by simp [b], by simp [b]⟩)
      · exact .inr (.inr ⟨by simp [a], by simp [b]⟩)
  clear hr hbP hnS hnT ha6 haS haC hk0 hk1 hs0 hq0 hc0 hq1 hL0 hL1 hL2 t7 t8 t8' t9 hx hxl
  have w4 : decide (N = if M = 1 then 0 else 1) = (bif decide (M = 1) then decide (N = 0) else decide (N = 1)) := by by_cases h : M = 1 <;> simp [h]
  simp only [w4, Bool.decide_and, Bool.decide_or] at hr2
  obtain ⟨btS, hbtS⟩ : ∃ b, b = decide (S = []) := ⟨_, rfl⟩
  have vtS : A.seq S [] = btS := by rw [hA.seq, hbtS]
  obtain ⟨btT, hbtT⟩ : ∃ b, b = decide (T = []) := ⟨_, rfl⟩
  have vtT : A.seq T [] = btT := by rw [hA.seq, hbtT]
  obtain ⟨bM0, hbM0⟩ : ∃ b, b = decide (M = 0) := ⟨_, rfl⟩
  have vM0 : A.eq M 0 = bM0 := by rw [hA.eq, hbM0]
  obtain ⟨bM1, hbM1⟩ : ∃ b, b = decide (M = 1) := ⟨_, rfl⟩
  have vM1 : A.eq M 1 = bM1 := by rw [hA.eq, hbM1]
  obtain ⟨bN0, hbN0⟩ : ∃ b, b = decide (N = 0) := ⟨_, rfl⟩
  have vN0 : A.eq N 0 = bN0 := by rw [hA.eq, hbN0]
  obtain ⟨bN1, hbN1⟩ : ∃ b, b = decide (N = 1) := ⟨_, rfl⟩
  have vN1 : A.eq N 1 = bN1 := by rw [hA.eq, hbN1]
  obtain ⟨bN2, hbN2⟩ : ∃ b, b = decide (N = 2) := ⟨_, rfl⟩
  have vN2 : A.eq N 2 = bN2 := by rw [hA.eq, hbN2]
  obtain ⟨blo, hblo⟩ : ∃ b, b = decide (-999999999999999999 ≤ N) := ⟨_, rfl⟩
  have vlo : A.le (-999999999999999999) N = blo := by rw [hA.le, hblo]
  obtain ⟨bhi, hbhi⟩ : ∃ b, b = decide (N ≤ 999999999999999999) := ⟨_, rfl⟩
  have vhi : A.le N 999999999999999999 = bhi := by rw [hA.le, hbhi]
  obtain ⟨bn0, hbn0⟩ : ∃ b, b = decide (0 ≤ N) := ⟨_, rfl⟩
  have vn0 : A.le 0 N = bn0 := by rw [hA.le, hbn0]
  obtain ⟨bn1, hbn1⟩ : ∃ b, b = decide (1 ≤ N) := ⟨_, rfl⟩
  have vn1 : A.le 1 N = bn1 := by rw [hA.le, hbn1]
  obtain ⟨bl1, hbl1⟩ : ∃ b, b = decide (1 ≤ M) := ⟨_, rfl⟩
  have vl1 : A.le 1 M = bl1 := by rw [hA.le, hbl1]
  obtain ⟨bl4, hbl4⟩ : ∃ b, b = decide (M ≤ 4) := ⟨_, rfl⟩
  have vl4 : A.le M 4 = bl4 := by rw [hA.le, hbl4]
  obtain ⟨bl6, hbl6⟩ : ∃ b, b = decide (M ≤ 6) := ⟨_, rfl⟩
  have vl6 : A.le M 6 = bl6 := by rw [hA.le, hbl6]
  simp only [← hbtS, ← hbtT, ← hbM0, ← hbM1, ← hbN0, ← hbN1, ← hbN2, ← hblo, ← hbhi, ← hbn0, ← hbn1, ← hbl1, ← hbl4, ← hbl6] at hr2
  clear hbtS hbtT hbM0 hbM1 hbN0 hbN1 hbN2 hblo hbhi hbn0 hbn1 hbl1 hbl4 hbl6 w4
  rcases hK with rfl | rfl
  all_goals simp only [Int.reduceEq, decide_true, decide_false, if_true, if_false, or_true, true_or, or_self] at u1 u2 u3 u4 u5 u6 u7 u8 u9 u10 u11 u12 u13 u14 u15 hr2
  all_goals rcases hl with ⟨hl, rfl, rfl⟩ | ⟨hl, rfl, rfl⟩ | ⟨rfl, rfl⟩
  all_goals
    try have e0 := e0 (by omega)
    try have e1 := e1 (by omega)
    try have hin0 : (0 : Int) ≤ 0 ∧ (0 : Int) < x.length := ⟨Int.le_refl 0, by omega⟩
    try have hin1 : (0 : Int) ≤ 1 ∧ (1 : Int) < x.length := ⟨by omega, by omega⟩
    cbv
    repeat' first | with_reducible rfl | (simp only [m2]; cbv) | (simp only [m1]; cbv) | (simp only [m0]; cbv) | (simp only [u1, u2, u3, u4, u5, u6, u7, u8, u9, u10, u11, u12, u13, u14, u15]; cbv) | (simp only [vtS, vtT, vM0, vM1, vN0, vN1, vN2, vlo, vhi, vn0, vn1, vl1, vl4, vl6]; cbv) | (simp only [ite_self]; cbv) | with_reducible refine And.intro ?_ ?_ | ((with_reducible intro hcc); first | (cases hcc; done) | skip) | ((with_reducible show goC _ _ _ _ _ _ _ _); cbv) | ((with_reducible show goOps _ _ _ _ _); cbv) | ((with_reducible show okWr _ _ = _); rfl) | ((with_reducible refine callK_eq hA hP ?_ ?_ ?_ (Wks.refl _) (fun _ _ => h272)); exact rfl; exact rfl; cbv) | ((with_reducible refine callK_eq hA hP ?_ ?_ ?_ (Wks.refl _) (fun _ _ => h69S)); exact rfl; exact rfl; cbv) | ((with_reducible refine callK_eq hA hP ?_ ?_ ?_ (Wks.refl _) (fun _ _ => h69T)); exact rfl; exact rfl; cbv) | ((with_reducible refine callK_eq hA hP ?_ ?_ ?_ (Wks.refl _) (fun _ _ => h6)); exact rfl; exact rfl; cbv) | ((with_reducible refine callK_eq hA hP ?_ ?_ ?_ (Wks.refl _) (fun _ _ => hS)); exact rfl; exact rfl; cbv) | ((with_reducible refine callK_eq hA hP ?_ ?_ ?_ (Wks.refl _) (fun _ _ => hC)); exact rfl; exact rfl; cbv) | ((with_reducible refine callK_eq hA hP ?_ ?_ ?_ (Wks.refl _) (fun _ _ => g0)); exact rfl; exact rfl; cbv) | ((with_reducible refine callK_eq hA hP ?_ ?_ ?_ (Wks.refl _) (fun _ _ => g1)); exact rfl; exact rfl; cbv) | ((with_reducible refine callK_eq hA hP ?_ ?_ ?_ (Wks.refl _) (fun _ _ => g2)); exact rfl; exact rfl; cbv) | ((with_reducible refine callK_eq hA hP ?_ ?_ ?_ (Wks.refl _) (fun _ _ => g3)); exact rfl; exact rfl; cbv) | ((with_reducible refine hA.len x _ _ _ _ fun z hz hb => ?_); (have e6 := hzx.trans hz.symm); subst e6; cbv) | ((with_reducible refine hA.row x _ _ ⟨hin0, fun row hrow => ?_⟩); have hrow := hrow.trans e0; subst hrow; cbv) | ((with_reducible refine hA.row x _ _ ⟨hin1, fun row hrow => ?_⟩); have hrow := hrow.trans e1; subst hrow; cbv) | ((with_reducible show A.row x _ _); cases vb; rotate_left; (exfalso; revert hvb; split <;> (intro h; cases h; done)); cbv) | ((with_reducible refine hA.row0 x _ _ fun p row => ?_); cbv) | ((with_reducible show A.call _ _ _ _ false _ _ _ _); refine callK_no hA (.bool false) ?_; cbv) | ((with_reducible refine hA.fin_pl _ _ _ ?_); cbv) | ((with_reducible refine hA.len _ _ _ _ _ fun z hz hb => ?_); cbv) | ((with_reducible refine hA.off _ _ _ _ fun b hb => ?_); cbv) | ((with_reducible refine hA.plus _ _ _ fun b hb => ?_); cbv) | ((with_reducible refine hA.gb0 true _ ?_); cbv) | ((with_reducible refine hA.gb0 false _ ?_); cbv) | ((with_reducible refine hA.gb _ _ fun vb hvb => ?_); cbv) | (simp only [hA.natLit, hA.natOf, hA.natCast]; cbv)
    all_goals try simp only [hA.add, hA.sub, hA.mul, hA.neg, hA.div, hA.mod, hA.mn, hA.mx, hA.eq, hA.lt, hA.le, hA.nat, hA.R, hA.lep, hA.ltp, hA.seq, inR, n_cast, Int.ofNat_eq_natCast, Option.getD_some, Option.getD_none] at *
    all_goals (clear h272 h69S h69T h6 hS hC g0 g1 g2 g3 u1 u2 u3 u4 u5 u6 u7 u8 u9 u10 u11 u12 u13 u14 u15 m0 m1 m2 vtS vtT vM0 vM1 vN0 vN1 vN2 vlo vhi vn0 vn1 vl1 vl4 vl6 e0 e1 hzx hxn hP)
    all_goals first
      | (rw [hr2]; done)
      | (cases bM0 <;> first | rfl | trivial | (simp; done))
      | (split <;> first | trivial | (rename_i hq; revert hq; cases bN1 <;> simp; done))
      | (split <;> first | rfl | trivial | assumption | (simp_all; done))
      | (rw [hr2]; simp_all; done)
      | (rw [hr2]; grind)
      | (trace_state; fail))
end Go.Proofs.Ytfplalbognalkaa.Ab
