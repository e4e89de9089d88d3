/- Things in memory under other numbers: calls that are handed things that are still written, and states taken for less. -/
import Derived.Test.YtmnhoglkahmlaaaAb12
set_option linter.unusedSimpArgs false
set_option linter.unusedVariables false
set_option linter.unnecessarySimpa false
set_option linter.constructorNameAsVariable false
namespace Go.Proofs.Ytmnhoglkahmlaaa.Ab
open Go

mutual
/-- The same under other numbers. -/
def D.ren (t : Nat → Nat) : D → D
  | .agg ds => .agg (rens t ds)
  | .own i es => .own (t i) es
  | .bs i off n k => .bs (t i) off n k
  | .ref i off => .ref (t i) off
  | .refs i off => .refs (t i) off
  | .tup ds => .tup (rens t ds)
  | .when g d => .when g (d.ren t)
  | .fn f a b => .fn f (rens t a) (rens t b)
  | .vec i n k => .vec (t i) n k
  | .vref i off => .vref (t i) off
  | .mp i => .mp (t i)
  | d => d
def rens (t : Nat → Nat) : List D → List D
  | [] => []
  | d :: r => d.ren t :: rens t r
end

mutual
/-- All its numbers are below. -/
def D.lt (m : Nat) : D → Bool
  | .agg ds => lts m ds
  | .own i _ | .bs i _ _ _ | .ref i _ | .refs i _ | .vec i _ _ | .vref i _ | .mp i => decide (i < m)
  | .tup ds => lts m ds
  | .when _ d => d.lt m
  | .fn _ a b => lts m a && lts m b
  | _ => true
def lts (m : Nat) : List D → Bool
  | [] => true
  | d :: r => d.lt m && lts m r
end

def O.ren (t : Nat → Nat) : O → O
  | .box ds => .box (rens t ds)
  | .vec b k ds => .vec b k (rens t ds)
  | o => o

def O.lt (m : Nat) : O → Bool
  | .box ds => lts m ds
  | .vec _ _ ds => lts m ds
  | _ => true

theorem rens_len (t : Nat → Nat) : ∀ ds : List D, (rens t ds).length = ds.length
  | [] => rfl
  | _ :: r => by rw [rens, List.length_cons, List.length_cons, rens_len t r]

theorem rens_get (t : Nat → Nat) : ∀ (ds : List D) (j : Nat), (rens t ds)[j]? = (ds[j]?).map (D.ren t)
  | [], j => by simp [rens]
  | d :: r, 0 => by simp [rens]
  | d :: r, j + 1 => by simp [rens, rens_get t r j]

theorem lts_get {m : Nat} : ∀ {ds : List D} {j : Nat} {d : D}, lts m ds = true → ds[j]? = some d → d.lt m = true
  | [], j, d, _, h => by simp at h
  | x :: r, 0, d, h, e => by simp [lts] at h; simp at e; subst e; exact h.1
  | x :: r, j + 1, d, h, e => by simp [lts] at h; exact lts_get h.2 (by simpa using e)

theorem O.ren_has (t : Nat → Nat) (o : O) : (o.ren t).has = o.has := by cases o <;> rfl

theorem ren_box {t : Nat → Nat} {o : O} {ds : List D} (h : o.ren t = .box ds) : ∃ ds0, o = .box ds0 ∧ ds = rens t ds0 := by
  cases o <;> simp [O.ren] at h
  exact ⟨_, rfl, h.symm⟩
theorem ren_front {t : Nat → Nat} {o : O} {n k : Nat} (h : o.ren t = .front n k) : o = .front n k := by
  cases o <;> simp [O.ren] at h
  rw [h.1, h.2]
theorem ren_smap {t : Nat → Nat} {o : O} {l : List (List UInt8 × E)} (h : o.ren t = .smap l) : o = .smap l := by
  cases o <;> simp [O.ren] at h
  rw [h]
theorem ren_gone {t : Nat → Nat} {o : O} (h : o.ren t = .gone) : o = .gone := by
  cases o <;> simp [O.ren] at h
  rfl
theorem ren_vec {t : Nat → Nat} {o : O} {b : Bool} {k : Nat} {ds : List D} (h : o.ren t = .vec b k ds) : ∃ ds0, o = .vec b k ds0 ∧ ds = rens t ds0 := by
  cases o <;> simp [O.ren] at h
  obtain ⟨rfl, rfl, rfl⟩ := h
  exact ⟨_, rfl, rfl⟩

theorem rens_e (t : Nat → Nat) (xs : List E) : rens t (xs.map .e) = xs.map .e := by
  induction xs with
  | nil => rfl
  | cons x xs ih => simp [rens, ih, D.ren]

theorem lts_e (m : Nat) (xs : List E) : lts m (xs.map .e) = true := by
  induction xs with
  | nil => rfl
  | cons x xs ih => simp [lts, ih, D.lt]

theorem rens_append (t : Nat → Nat) (a b : List D) : rens t (a ++ b) = rens t a ++ rens t b := by
  induction a with
  | nil => rfl
  | cons x xs ih => simp [rens, ih]

theorem lts_append (m : Nat) (a b : List D) : lts m (a ++ b) = (lts m a && lts m b) := by
  induction a with
  | nil => simp [lts]
  | cons x xs ih => simp [lts, ih, Bool.and_assoc]

theorem Rv.ren {w : World} {G G2 : Gh} {h h2 : Hp} {t : Nat → Nat} (hp : G2.pub = G.pub) (H : ∀ i, h i ≠ .dead → h2 (t i) = (h i).ren t ∧ G2.blk (t i) = G.blk i) {v : Value} {d : D} (r : Rv w G h v d) : Rv w G2 h2 v (d.ren t) := by
  induction r with
  | e h => exact .e (by rw [hp]; exact h)
  | agg hl h1 _ ih =>
    refine .agg (by rw [rens_len]; exact hl) h1 fun j c d hc hd => ?_
    rw [rens_get] at hd
    obtain ⟨d0, h0, rfl⟩ := Option.map_eq_some_iff.1 hd
    exact ih j c d0 hc h0
  | own hx hk ht =>
    obtain ⟨N, e, l, t1⟩ := ht
    obtain ⟨e2, b2⟩ := H _ (by rw [e]; simp)
    rw [e] at e2
    refine .own (by rw [hp]; exact hx) hk ⟨N, e2, l, fun q => ?_⟩
    rcases t1 q with t1 | ⟨t0, cap, cs, T, fr, t1, t2, t3⟩
    · exact .inl t1
    · exact .inr ⟨t0, cap, cs, T, fr, by rw [b2]; exact t1, by rw [b2]; exact t2, t3⟩
  | zs ha => exact .zs ha
  | bs hb hc hl hm =>
    obtain ⟨e2, b2⟩ := H _ (by rw [hb]; simp)
    rw [hb] at e2
    exact .bs e2 hc (by rw [rens_len, b2]; exact hl) hm
  | rp u hu hr => exact .rp u (by rw [hp]; exact hu) (by rw [hp]; exact hr)
  | ref hb =>
    obtain ⟨e2, b2⟩ := H _ (by rw [hb]; simp)
    rw [hb] at e2
    rw [← b2]
    exact .ref e2
  | refs hb =>
    obtain ⟨e2, b2⟩ := H _ (by rw [hb]; simp)
    rw [hb] at e2
    rw [← b2]
    exact .refs e2
  | tup hl _ ih =>
    refine .tup (by rw [rens_len]; exact hl) fun j c d hc hd => ?_
    rw [rens_get] at hd
    obtain ⟨d0, h0, rfl⟩ := Option.map_eq_some_iff.1 hd
    exact ih j c d0 hc h0
  | when _ hu ih => exact .when ih hu
  | fn hl _ hl' _ ih ih' =>
    refine .fn (by rw [rens_len]; exact hl) (fun j c d hc hd => ?_) (by rw [rens_len]; exact hl') (fun j c d hc hd => ?_)
    · rw [rens_get] at hd
      obtain ⟨d0, h0, rfl⟩ := Option.map_eq_some_iff.1 hd
      exact ih j c d0 hc h0
    · rw [rens_get] at hd
      obtain ⟨d0, h0, rfl⟩ := Option.map_eq_some_iff.1 hd
      exact ih' j c d0 hc h0
  | @vec i n k a cap hd hm hc hv =>
    obtain ⟨e2, b2⟩ := H _ hd
    refine .vec (by rw [e2]; cases hh : h i <;> simp_all [O.ren]) hm hc fun b k' ds e => ?_
    rw [e2] at e
    cases hh : h i with
    | vec b0 k0 ds0 =>
      rw [hh] at e
      simp only [O.ren, O.vec.injEq] at e
      obtain ⟨rfl, rfl, rfl⟩ := e
      obtain ⟨q1, q2, q3, q4⟩ := hv _ _ _ hh
      refine ⟨q1, by rw [rens_len]; exact q2, q3, fun hb => ?_⟩
      rw [b2]; exact q4 hb
    | _ => rw [hh] at e; simp [O.ren] at e
  | @vref i off x hd hv =>
    obtain ⟨e2, b2⟩ := H _ hd
    refine .vref (by rw [e2]; cases hh : h i <;> simp_all [O.ren]) fun b k ds e => ?_
    rw [e2] at e
    cases hh : h i with
    | vec b0 k0 ds0 =>
      rw [hh] at e
      simp only [O.ren, O.vec.injEq] at e
      obtain ⟨rfl, rfl, rfl⟩ := e
      obtain ⟨q1, q2⟩ := hv _ _ _ hh
      exact ⟨q1, by rw [b2]; exact q2⟩
    | _ => rw [hh] at e; simp [O.ren] at e
  | mp hb =>
    obtain ⟨e2, b2⟩ := H _ (by rw [hb]; simp)
    rw [hb] at e2
    rw [← b2]
    exact .mp e2
  | any => exact .any

theorem Rv.unren {w : World} {G G2 : Gh} {h h2 : Hp} {t : Nat → Nat} {m : Nat} (hp : G2.pub = G.pub) (H : ∀ i, i < m → h2 (t i) = (h i).ren t ∧ G2.blk (t i) = G.blk i) {v : Value} {d' : D} (r : Rv w G2 h2 v d') :
    ∀ d : D, d' = d.ren t → d.lt m = true → Rv w G h v d := by
  induction r with
  | e h => intro d e hl; cases d <;> simp [D.ren] at e; subst e; exact .e (by rw [← hp]; exact h)
  | agg hs h1 _ ih =>
    intro d e hl
    cases d <;> simp [D.ren] at e
    subst e
    refine .agg (by rw [hs, rens_len]) h1 fun j c d0 hc hd => ih j c (d0.ren t) hc (by rw [rens_get, hd]; rfl) d0 rfl (lts_get (by simpa [D.lt] using hl) hd)
  | own hx hk ht =>
    intro d e hl
    cases d <;> try (simp [D.ren] at e; done)
    rename_i i es
    simp only [D.ren, D.own.injEq] at e
    obtain ⟨rfl, rfl⟩ := e
    obtain ⟨N, e, l, t1⟩ := ht
    obtain ⟨e2, b2⟩ := H i (by simpa [D.lt] using hl)
    rw [e] at e2
    have e3 := ren_front e2.symm
    refine .own (by rw [← hp]; exact hx) hk ⟨N, e3, l, fun q => ?_⟩
    rcases t1 q with t1 | ⟨t0, cap, cs, T, fr, t1, t2, t3⟩
    · exact .inl t1
    · exact .inr ⟨t0, cap, cs, T, fr, by rw [← b2]; exact t1, by rw [← b2]; exact t2, t3⟩
  | zs ha => intro d e hl; cases d <;> simp [D.ren] at e; exact .zs ha
  | bs hb hc hll hm =>
    intro d e hl
    cases d <;> try (simp [D.ren] at e; done)
    rename_i i off n k
    simp only [D.ren, D.bs.injEq] at e
    obtain ⟨rfl, rfl, rfl, rfl⟩ := e
    obtain ⟨e2, b2⟩ := H i (by simpa [D.lt] using hl)
    rw [hb] at e2
    cases hh : h i <;> rw [hh] at e2 <;> simp [O.ren] at e2
    subst e2
    exact .bs hh hc (by rw [rens_len, b2] at hll; exact hll) hm
  | rp u hu hr => intro d e hl; cases d <;> simp [D.ren] at e; subst e; exact .rp u (by rw [← hp]; exact hu) (by rw [← hp]; exact hr)
  | ref hb =>
    intro d e hl
    cases d <;> try (simp [D.ren] at e; done)
    rename_i i off
    simp only [D.ren, D.ref.injEq] at e
    obtain ⟨rfl, rfl⟩ := e
    obtain ⟨e2, b2⟩ := H i (by simpa [D.lt] using hl)
    rw [hb] at e2
    cases hh : h i <;> rw [hh] at e2 <;> simp [O.ren] at e2
    rw [b2]
    exact .ref hh
  | refs hb =>
    intro d e hl
    cases d <;> try (simp [D.ren] at e; done)
    rename_i i off
    simp only [D.ren, D.refs.injEq] at e
    obtain ⟨rfl, rfl⟩ := e
    obtain ⟨e2, b2⟩ := H i (by simpa [D.lt] using hl)
    rw [hb] at e2
    cases hh : h i <;> rw [hh] at e2 <;> simp [O.ren] at e2
    rw [b2]
    exact .refs hh
  | tup hs _ ih =>
    intro d e hl
    cases d <;> simp [D.ren] at e
    subst e
    refine .tup (by rw [hs, rens_len]) fun j c d0 hc hd => ih j c (d0.ren t) hc (by rw [rens_get, hd]; rfl) d0 rfl (lts_get (by simpa [D.lt] using hl) hd)
  | when _ hu ih =>
    intro d e hl
    cases d <;> simp [D.ren] at e
    obtain ⟨rfl, rfl⟩ := e
    exact .when (fun hg => ih hg _ rfl (by simpa [D.lt] using hl)) hu
  | fn hs _ hs' _ ih ih' =>
    intro d e hl
    cases d <;> simp [D.ren] at e
    obtain ⟨rfl, rfl, rfl⟩ := e
    simp only [D.lt, Bool.and_eq_true] at hl
    exact .fn (by rw [hs, rens_len]) (fun j c d0 hc hd => ih j c (d0.ren t) hc (by rw [rens_get, hd]; rfl) d0 rfl (lts_get hl.1 hd)) (by rw [hs', rens_len])
      (fun j c d0 hc hd => ih' j c (d0.ren t) hc (by rw [rens_get, hd]; rfl) d0 rfl (lts_get hl.2 hd))
  | vec hd hm hc hv =>
    intro d e hl
    cases d <;> try (simp [D.ren] at e; done)
    rename_i i n k
    simp only [D.ren, D.vec.injEq] at e
    obtain ⟨rfl, rfl, rfl⟩ := e
    obtain ⟨e2, b2⟩ := H i (by simpa [D.lt] using hl)
    refine .vec (fun h0 => hd (by rw [e2, h0]; rfl)) hm hc fun b k' ds e => ?_
    rw [e] at e2
    obtain ⟨q1, q2, q3, q4⟩ := hv _ _ _ e2
    refine ⟨q1, by rw [rens_len] at q2; exact q2, q3, fun hb => ?_⟩
    rw [← b2]; exact q4 hb
  | vref hd hv =>
    intro d e hl
    cases d <;> try (simp [D.ren] at e; done)
    rename_i i off
    simp only [D.ren, D.vref.injEq] at e
    obtain ⟨rfl, rfl⟩ := e
    obtain ⟨e2, b2⟩ := H i (by simpa [D.lt] using hl)
    refine .vref (fun h0 => hd (by rw [e2, h0]; rfl)) fun b k ds e => ?_
    rw [e] at e2
    obtain ⟨q1, q2⟩ := hv _ _ _ e2
    exact ⟨q1, by rw [← b2]; exact q2⟩
  | mp hb =>
    intro d e hl
    cases d <;> try (simp [D.ren] at e; done)
    rename_i i
    simp only [D.ren, D.mp.injEq] at e
    subst e
    obtain ⟨e2, b2⟩ := H i (by simpa [D.lt] using hl)
    rw [hb] at e2
    rw [b2]
    exact .mp (ren_smap e2.symm)
  | any => intro d e hl; cases d <;> simp [D.ren] at e; exact .any

/-- Some of the things, under new numbers: memory is as they say. -/
theorem inv_ren {w : World} {G : Gh} {h : Hp} {l : List O} {t : Nat → Nat} (hi : Inv w G h) (inj : ∀ i j, i < l.length → j < l.length → t i = t j → i = j)
    (H : ∀ i, i < l.length → h (t i) = (hpF l i).ren t) (hlt : ∀ o ∈ l, o.lt l.length = true) : Inv w ⟨G.pub, fun i => G.blk (t i)⟩ (hpF l) := by
  have hlen : ∀ i, hpF l i ≠ .dead → i < l.length := fun i hd => by
    rcases Nat.lt_or_ge i l.length with q | q
    · exact q
    · exact absurd (hpF_ge q) hd
  have hhas : ∀ i, (hpF l i).has = true → i < l.length ∧ (h (t i)).has = true := fun i hh => by
    have := hlen i (fun e => by rw [e] at hh; simp [O.has] at hh)
    exact ⟨this, by rw [H i this, O.ren_has]; exact hh⟩
  have hmem : ∀ i, i < l.length → hpF l i ∈ l := fun i hi => by simp [hpF, List.getD, hi]
  have un : ∀ {v d}, Rv w G h v (d.ren t) → d.lt l.length = true → Rv w ⟨G.pub, fun i => G.blk (t i)⟩ (hpF l) v d := fun r hl => Rv.unren (G2 := G) (G := ⟨G.pub, fun i => G.blk (t i)⟩) (m := l.length) rfl (fun i hi => ⟨H i hi, rfl⟩) r _ rfl hl
  refine ⟨fun i hh => hi.lt _ (hhas i hh).2, fun i j p q e => inj i j (hhas i p).1 (hhas j q).1 (hi.inj _ _ (hhas i p).2 (hhas j q).2 e), hi.publt, fun i ds e => ?_, fun i n k e h0 => ?_, fun i b k ds e => ?_, fun i l e => ?_⟩
  · have hil := hlen i (by rw [e]; simp)
    have e2 := H i hil
    rw [e] at e2
    obtain ⟨p1, cs, T, p2, p3, p4⟩ := hi.box _ _ e2
    have hl := hlt _ (hmem i hil)
    rw [e] at hl
    refine ⟨p1, cs, T, p2, by rw [p3, rens_len], fun j c d hc hd => ?_⟩
    obtain ⟨q1, q2⟩ := p4 j c (d.ren t) hc (by rw [rens_get, hd]; rfl)
    exact ⟨un q1 (lts_get hl hd), q2⟩
  · have hil := hlen i (by rw [e]; simp)
    have e2 := H i hil
    rw [e] at e2
    exact hi.front _ _ _ e2 h0
  · have hil := hlen i (by rw [e]; simp)
    have e2 := H i hil
    rw [e] at e2
    have hl := hlt _ (hmem i hil)
    rw [e] at hl
    obtain ⟨p0, p⟩ := hi.vec _ _ _ _ e2
    refine ⟨fun hb => ?_, fun hb => ?_⟩
    · have := p0 hb
      cases ds with
      | nil => rfl
      | cons _ _ => simp [rens] at this
    obtain ⟨p1, cs, T, p2, p3, p4⟩ := p hb
    refine ⟨p1, cs, T, p2, by rw [rens_len] at p3; exact p3, fun j c d hc hd => ?_⟩
    obtain ⟨q1, q2⟩ := p4 j c (d.ren t) hc (by rw [rens_get, hd]; rfl)
    exact ⟨un q1 (lts_get hl hd), q2⟩
  · have hil := hlen i (by rw [e]; simp)
    have e2 := H i hil
    rw [e] at e2
    exact hi.smap _ _ e2

/-- What has been said of the way so far still holds under new numbers, when the first things keep theirs. -/
theorem ext_ren {w w0 : World} {G G0 : Gh} {h h0 : Hp} {l : List O} {t : Nat → Nat} (H : ∀ i, i < l.length → h (t i) = (hpF l i).ren t) (hf : ∀ i, h0 i ≠ .dead → t i = i ∧ i < l.length)
    (e : Ext w0 G0 h0 w G h) : Ext w0 G0 h0 w ⟨G.pub, fun i => G.blk (t i)⟩ (hpF l) where
  os := e.os
  tape := e.tape
  output := e.output
  size := e.size
  pub := e.pub
  box := fun i ds q => by
    obtain ⟨e1, e2⟩ := hf i (by rw [q]; simp)
    obtain ⟨⟨ds', q1, q2⟩, q3⟩ := e.box i ds q
    have := H i e2
    rw [e1, q1] at this
    obtain ⟨ds0, r1, r2⟩ := ren_box this.symm
    exact ⟨⟨ds0, r1, by rw [← q2, r2, rens_len]⟩, by show G.blk (t i) = _; rw [e1]; exact q3⟩
  tok := fun i n k q => by
    obtain ⟨e1, e2⟩ := hf i (by rw [q]; simp)
    obtain ⟨n', q1, q2, q3⟩ := e.tok i n k q
    have := H i e2
    rw [e1, q1] at this
    exact ⟨n', ren_front this.symm, q2, by show _ → _ → G.blk (t i) = _ ∧ _; rw [e1]; exact q3⟩
  others := e.others
  new := fun i hi => by
    have hil : i < l.length := by
      rcases Nat.lt_or_ge i l.length with q | q
      · exact q
      · rw [hpF_ge q] at hi; simp [O.has] at hi
    exact e.new (t i) (by rw [H i hil, O.ren_has]; exact hi)
  pubnew := e.pubnew
  vec := fun i b k ds q => by
    obtain ⟨e1, e2⟩ := hf i (by rw [q]; simp)
    have := H i e2
    rcases e.vec i b k ds q with q1 | ⟨ds', q1, q2, q3⟩
    · rw [e1, q1] at this
      exact .inl (ren_gone this.symm)
    · rw [e1, q1] at this
      obtain ⟨ds0, r1, r2⟩ := ren_vec this.symm
      exact .inr ⟨ds0, r1, by rw [r2, rens_len] at q2; exact q2, by show _ → G.blk (t i) = _ ∧ _; rw [e1]; exact q3⟩
  gone := fun i q => by
    obtain ⟨e1, e2⟩ := hf i (by rw [q]; simp)
    have := H i e2
    rw [e1, e.gone i q] at this
    exact ren_gone this.symm
  smap := fun i l q => by
    obtain ⟨e1, e2⟩ := hf i (by rw [q]; simp)
    have := H i e2
    obtain ⟨⟨l', q1⟩, q2⟩ := e.smap i l q
    rw [e1, q1] at this
    exact ⟨⟨l', ren_smap this.symm⟩, by show G.blk (t i) = _; rw [e1]; exact q2⟩
end Go.Proofs.Ytmnhoglkahmlaaa.Ab
