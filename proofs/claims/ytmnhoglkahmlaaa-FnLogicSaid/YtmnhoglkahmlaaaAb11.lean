/- Calls of proved functions, and what a state may be taken for. -/
import Derived.Test.YtmnhoglkahmlaaaAb10
set_option linter.unusedSimpArgs false
set_option linter.unusedVariables false
set_option linter.unnecessarySimpa false
set_option linter.constructorNameAsVariable false
namespace Go.Proofs.Ytmnhoglkahmlaaa.Ab
open Go

theorem frees_get : ∀ {ds : List D} {j : Nat} {d : D}, frees ds = true → ds[j]? = some d → d.free = true
  | [], j, d, _, hd => by simp at hd
  | x :: r, 0, d, h, hd => by
    simp only [frees, Bool.and_eq_true] at h
    simp at hd; subst hd; exact h.1
  | x :: r, j + 1, d, h, hd => by
    simp only [frees, Bool.and_eq_true] at h
    exact frees_get h.2 (by simpa using hd)

theorem Rv.free {w : World} {G : Gh} {h : Hp} {v : Value} {d : D} (r : Rv w G h v d) {G' : Gh} {h' : Hp} (hf : d.free = true) (hp : G'.pub = G.pub) : Rv w G' h' v d := by
  induction r with
  | e h => exact .e (by rw [hp]; exact h)
  | agg hl h1 _ ih => exact .agg hl h1 fun j c d hc hd => ih j c d hc hd (frees_get (by simpa [D.free] using hf) hd)
  | own _ _ _ => simp [D.free] at hf
  | zs ha => exact .zs ha
  | bs _ _ _ _ => simp [D.free] at hf
  | rp u hu hr => exact .rp u (by rw [hp]; exact hu) (by rw [hp]; exact hr)
  | ref _ => simp [D.free] at hf
  | refs _ => simp [D.free] at hf
  | tup hl _ ih => exact .tup hl fun j c d hc hd => ih j c d hc hd (frees_get (by simpa [D.free] using hf) hd)
  | when _ hu ih => exact .when (fun e => ih e (by simpa [D.free] using hf)) hu
  | fn hl _ hl' _ ih ih' =>
    simp only [D.free, Bool.and_eq_true] at hf
    exact .fn hl (fun j c d hc hd => ih j c d hc hd (frees_get hf.1 hd)) hl' fun j c d hc hd => ih' j c d hc hd (frees_get hf.2 hd)
  | vec _ _ _ _ => simp [D.free] at hf
  | vref _ _ => simp [D.free] at hf
  | mp _ => simp [D.free] at hf
  | any => exact .any

theorem hpF_nil : hpF [] = fun _ => .dead := by funext i; simp [hpF]

theorem inv_nil {w : World} {G : Gh} {h : Hp} (hi : Inv w G h) : Inv w G (hpF []) := by
  rw [hpF_nil]
  exact ⟨fun i h => by simp [O.has] at h, fun i j h => by simp [O.has] at h, hi.publt, fun i ds e => by simp at e, fun i n k e => by simp at e, fun i b k ds e => by simp at e, fun i l e => by simp at e⟩

/-- Behind a call that was handed nothing that is still written: the caller's things stand. -/
theorem frame_pure {w w' : World} {G G1 : Gh} {h h1 : Hp} (hi : Inv w G h) (hi1 : Inv w' G1 h1) (he : Ext w G (hpF []) w' G1 h1) :
    Inv w' ⟨G1.pub, G.blk⟩ h ∧ Ext w G h w' ⟨G1.pub, G.blk⟩ h := by
  rw [hpF_nil] at he
  have row : ∀ i, (h i).has = true → w'.heap[G.blk i]? = w.heap[G.blk i]? := fun i hh => he.others _ (hi.lt i hh) fun j hj => by simp [O.has] at hj
  have ext : Ext w G h w' ⟨G1.pub, G.blk⟩ h := {
    os := he.os
    tape := he.tape
    output := he.output
    size := he.size
    pub := he.pub
    box := fun i ds e => ⟨⟨ds, e, rfl⟩, rfl⟩
    tok := fun i n k e => ⟨n, e, Nat.le_refl _, fun _ hn => ⟨rfl, by simp only [World.shape?]; rw [row i (by rw [e]; simp [O.has, hn])]⟩⟩
    others := fun b hb _ => he.others b hb fun j hj => by simp [O.has] at hj
    new := fun i hi => .inl ⟨i, hi, rfl⟩
    vec := fun i b k ds e => .inr ⟨ds, e, Nat.le_refl _, fun hb => ⟨rfl, by simp only [World.shape?]; rw [row i (by rw [e]; exact hb)]⟩⟩
    gone := fun _ e => e
    smap := fun _ l e => ⟨⟨l, e⟩, rfl⟩
    pubnew := fun b o p => by
      rcases he.pubnew b o p with q | q | ⟨j, q, _⟩
      · exact .inl q
      · exact .inr (.inl q)
      · simp [O.has] at q }
  refine ⟨⟨fun i hh => Nat.lt_of_lt_of_le (hi.lt i hh) he.size, hi.inj, hi1.publt, fun i ds e => ?_, fun i n k e hn => ?_, fun i b k ds e => ?_, fun i l e => ?_⟩, ext⟩
  · obtain ⟨a1, cs, T, a2, a3, a4⟩ := hi.box i ds e
    have hh : (h i).has = true := by rw [e]; rfl
    refine ⟨fun o p => ?_, cs, T, by rw [← a2]; exact row i hh, a3, fun j c d hc hd => ⟨(a4 j c d hc hd).1.ext ext, (a4 j c d hc hd).2⟩⟩
    rcases he.pubnew _ _ p with q | q | ⟨j, q, _⟩
    · exact a1 o q
    · have := hi.lt i hh; exact absurd this (Nat.not_lt.2 q)
    · simp [O.has] at q
  · obtain ⟨⟨cs, T, a1⟩, a2⟩ := hi.front i n k e hn
    have hh : (h i).has = true := by rw [e]; simp [O.has, hn]
    refine ⟨⟨cs, T, by rw [← a1]; exact row i hh⟩, fun o ho p => ?_⟩
    rcases he.pubnew _ _ p with q | q | ⟨j, q, _⟩
    · exact a2 o ho q
    · have := hi.lt i hh; exact absurd this (Nat.not_lt.2 q)
    · simp [O.has] at q
  · obtain ⟨a0, a⟩ := hi.vec i b k ds e
    refine ⟨a0, fun hb => ?_⟩
    obtain ⟨a1, cs, T, a2, a3, a4⟩ := a hb
    have hh : (h i).has = true := by rw [e]; exact hb
    refine ⟨fun o p => ?_, cs, T, by rw [← a2]; exact row i hh, a3, fun j c d hc hd => ⟨(a4 j c d hc hd).1.ext ext, (a4 j c d hc hd).2⟩⟩
    rcases he.pubnew _ _ p with q | q | ⟨j, q, _⟩
    · exact a1 o q
    · have := hi.lt i hh; exact absurd this (Nat.not_lt.2 q)
    · simp [O.has] at q
  · obtain ⟨a1, es, ck, a2, a3, a4⟩ := hi.smap i l e
    have hh : (h i).has = true := by rw [e]; rfl
    refine ⟨fun o p => ?_, es, ck, by rw [← a2]; exact row i hh, a3, fun j e p a b => ⟨(a4 j e p a b).1, (a4 j e p a b).2.mono ext.pub⟩⟩
    rcases he.pubnew _ _ p with q | q | ⟨j, q, _⟩
    · exact a1 o q
    · have := hi.lt i hh; exact absurd this (Nat.not_lt.2 q)
    · simp [O.has] at q

/-- What is handed back may be taken for less. -/
theorem fin_pl {l : List O} {d' d : D} (h : d'.pl = d) (hf : d.free = true) : FinW l d' d := by
  intro w G v hi hr
  refine ⟨G, ?_, inv_nil hi, fun w0 G0 e => ?_⟩
  · have := hr.pl
    rw [h] at this
    exact this.free hf rfl
  · rw [hpF_nil] at e ⊢
    exact ⟨e.os, e.tape, e.output, e.size, e.pub, fun i ds h => by simp at h, fun i n k h => by simp at h, e.others, fun i h => by simp [O.has] at h, e.pubnew, fun i b k ds h => by simp at h, fun i h => by simp at h, fun i l h => by simp at h⟩

/-- A function that is handed plain things and hands back a plain thing. -/
def Plain (P : Program) (fn : FuncId) (args : List D) (d : D) : Prop := CallOK P fn args [] fun d' l' => FinW l' d' d

theorem Plain.callE {P : Program} {fn : FuncId} {args : List D} {d : D} (h : Plain P fn args d) (ha : frees args = true) (hd : d.free = true) (f : Nat) : CallE P fn args [] f { d := some d } := by
  intro w G hh h' vs hi _ _ he hs hr
  have e' : h' = hh := by
    funext i
    rw [he i]
    simp only [List.length_nil, Nat.add_zero, List.find?_nil]
    rw [if_neg (by omega)]
  subst e'
  refine (h w G vs (inv_nil hi) hs fun j v x hv hx => (hr j v x hv hx).free (frees_get ha hx) rfl).mono fun e w' ⟨v, d', l', G1, q1, q2, q3, q4, q5⟩ => ?_
  obtain ⟨G2, r1, r2, r3⟩ := q2 w' G1 v q4 q3
  obtain ⟨i1, x1⟩ := frame_pure hi r2 (r3 _ _ q5)
  exact ⟨v, d, ⟨G2.pub, G.blk⟩, q1, rfl, r1.free hd rfl, i1, x1⟩

theorem callK_fn {P : Program} {hp : Hp} {f : Nat} {gd g : Bool} {fn : FuncId} {ds args : List D} {d : D} {o : Prop} {K : Prop → Eff → Prop}
    (ha : frees args = true) (hd : d.free = true) (hk : K o { d := some (if gd then .when g d else d) }) (hw : Wks ds args) (h : g = true → o → Plain P fn args d) : CallK P hp f gd g fn ds o K :=
  ⟨args, [], { d := some d }, hw, (fun hg ho => (h hg ho).callE ha hd f), fun _ _ h => (List.not_mem_nil h).elim, fun _ => ⟨rfl, rfl⟩, fun _ h => (List.not_mem_nil h).elim, rfl, d, rfl, hk⟩

theorem Wks.refl : ∀ ds : List D, Wks ds ds
  | [] => trivial
  | _ :: r => ⟨.inl rfl, Wks.refl r⟩

theorem Ar.Ok.fin_pl {A : Ar} (h : A.Ok) (l : List O) (d' d : D) (e : d'.pl = d) : A.fin l d' d := h.fin _ _ _ fun hf => Ab.fin_pl e hf
theorem n_cast (n : Nat) : @NatCast.natCast Int instNatCastInt n = (n : Int) := rfl
theorem Ar.Ok.natLit {A : Ar} (h : A.Ok) (k : Nat) : A.nat (OfNat.ofNat k) = k := by rw [h.nat]; rfl
theorem Ar.Ok.natOf {A : Ar} (h : A.Ok) (k : Nat) : A.nat (Int.ofNat k) = k := by rw [h.nat]; rfl
theorem Ar.Ok.natCast {A : Ar} (h : A.Ok) (k : Nat) : A.nat (k : Int) = k := by rw [h.nat]; rfl

/-- A function's contract, from its walk: over whatever arithmetic and whatever program, as far as they are what they are. -/
theorem okOf {Q : Program} (hm : Q.follows .mixedOrders = true) {fn : FuncId} {f : F} {args : List D} {d : D} (hf : prepF Q fn = some f)
    (h : ∀ (A : Ar) (P : Program), A.Ok → P = Q → goF A P f args [] fun d' l => A.fin l d' d) (hd : d.free = true := by rfl) : Plain Q fn args d := by
  have := callOK hm hf (h Ar.std Q Ar.std_ok rfl)
  intro w G vs a b c
  exact (this w G vs a b c).mono fun e w' ⟨v, d', l', G', q1, q2, q3⟩ => ⟨v, d', l', G', q1, q2 hd, q3⟩

theorem callK_eq {A : Ar} (hA : A.Ok) {P Q : Program} (e : P = Q) {hp : Hp} {f : Nat} {gd g : Bool} {fn : FuncId} {ds args : List D} {d : D} {o : Prop} {K : Prop → Eff → Prop}
    (ha : frees args = true) (hd : d.free = true) (hk : K o { d := some (if gd then .when g d else d) }) (hw : Wks ds args) (h : g = true → o → Plain Q fn args d) : A.call P hp f gd g fn ds o K :=
  hA.call _ _ _ _ _ _ _ _ _ (e ▸ callK_fn ha hd hk hw h)

end Go.Proofs.Ytmnhoglkahmlaaa.Ab
