/- Marks: slices of scalars. -/
import Derived.Test.YtfplalbognalkaaMFnExactSortRows4
set_option linter.unusedSimpArgs false
set_option linter.unusedVariables false
set_option linter.unnecessarySimpa false
set_option linter.constructorNameAsVariable false
namespace Go.Proofs.Ytfplalbognalkaa.Ab
open Go
theorem tree_nil {w : World} {v : Value} {bs : List Nat} {i : Nat} (t : TreeAt w v bs (.fs i [])) : ∃ a cap, v = .slice a 0 cap ∧ (a = none → cap = 0) := by
  cases t with
  | nil h => exact ⟨_, _, rfl, h⟩
  | fs bss hn hc hm hk hb hsz hl hr => subst hn; exact ⟨_, _, rfl, fun h => by cases h⟩
/-- The ghost in which one block is a thing of the callee's. -/
def oneG (w : World) (b : Nat) : Gh := ⟨fun x _ => x < w.heap.size ∧ x ≠ b, fun _ => b, fun _ => none, fun _ => .bool true, fun _ => []⟩
theorem vec_hp {b : Bool} {k i : Nat} {ds : List D} : hpF [O.vec b k ds] i = if i = 0 then .vec b k ds else .dead := by
  cases i <;> simp [hpF]
theorem one_inv {w : World} {b k : Nat} {ds : List D} {cs : Array Value} {T : TypeId} (hb : w.heap[b]? = some (.cells cs T (0, 0))) (hl : ds.length ≤ cs.size)
    (hr : ∀ (j : Nat) c d, cs[j]? = some c → ds[j]? = some d → Rv w (oneG w b) (hpF [.vec true k ds]) c d ∧ c.oneCell' = true) : Inv w (oneG w b) (hpF [.vec true k ds]) := by
  have no : ∀ {j : Nat} {o : O}, hpF [O.vec true k ds] j = o → (∀ b k ds, o ≠ .vec b k ds) → o = .dead := fun {j o} e h1 => by
    rw [vec_hp] at e
    split at e
    · exact absurd e.symm (h1 _ _ _)
    · exact e.symm
  have lt : b < w.heap.size := (Array.getElem?_eq_some_iff.1 hb).1
  have z : ∀ {i}, (hpF [O.vec true k ds] i).has = true → i = 0 := fun {i} h => by
    rw [vec_hp] at h
    split at h
    · assumption
    · cases h
  refine ⟨fun j h => lt, fun j k h1 h2 _ => (z h1).trans (z h2).symm, fun _ _ p => p.1, fun j ds e => ?_, fun j n k e => ?_, fun j b' k' ds' e => ?_, fun j l e => ?_, ⟨fun j b e => (by cases e), fun j k b c e => (by cases e), fun j m' e k hk => rfl, fun j k m1 m2 e1 e2 => ?_, fun j R e => ?_⟩⟩
  · have := no e (by simp); cases this
  · have := no e (by simp); cases this
  · rw [vec_hp] at e
    split at e
    · cases e
      exact ⟨fun h => (by cases h), fun _ => ⟨fun o p => p.2 rfl, cs, T, hb, hl, hr⟩⟩
    · cases e
  · have := no e (by simp); cases this
  · have := no e1 (by simp); cases this
  · have := no e (by simp); cases this
/-- A function that writes marks into a slice of scalars. -/
theorem markLeaf {P : Program} {fn : FuncId} {k : Nat} {i : Nat} {es es' : List (List E)} {z z' : Int} (hs : ∀ e ∈ es.flatten, e.sca = true) (hs' : ∀ e ∈ es'.flatten, e.sca = true) (hl : es'.length = es.length) (hk' : ∀ e ∈ es', e.length = k) (hz : okV (.int .i64 z) = true)
    (h0 : es = [] → Plain P fn [.e (.sl []), .int z] (.int z'))
    (h1 : 0 < es.length → (∀ e ∈ es, e.length = k) → Proc P fn (fun t => [.vec (t 0) es.length k, .int z]) (fun _ => [.vec true k (es.flatten.map .e)]) (fun _ => .int z') (fun _ => [.vec true k (es'.flatten.map .e)])) (hk : ∀ e ∈ es, e.length = k) :
    MarkC P fn id (.fs i es) (.fs i es') z z' := by
  intro w v bs hnd hlt t
  by_cases he : es = []
  · subst he
    have he' : es' = [] := List.length_eq_zero_iff.1 hl
    subst he'
    obtain ⟨a, cap, rfl, ha⟩ := tree_nil t
    refine (h0 rfl w (pub0 w) _ pub0_inv' rfl fun j x d hx hd => ?_).mono fun en w' ⟨v', d', l', G1, q1, q2, q3, q4, q5⟩ => ?_
    · rcases j with _ | _ | j
      · cases hx; cases hd; exact .e (.nils ha)
      · cases hx; cases hd; exact .e (.v hz)
      · simp at hx
    · obtain ⟨G2, r1, r2, r3⟩ := q2 w' G1 v' q4 q3
      have x := r3 _ _ q5
      rw [hpF_nil] at x
      have r1 := rv_e r1
      cases r1 with | v hok => ?_
      exact ⟨q1, hok, x.os, x.tape, x.output, x.size, fun b hb _ => x.others b hb (fun i q => by simp [O.has] at q) fun i R q => by simp at q, [], List.nodup_nil, (fun b hb => (by cases hb)), .nil ha⟩
  · have hpos : 0 < es.length := List.length_pos_iff.2 he
    cases t with
    | nil => exact absurd rfl he
    | @fs b n cap k2 i es cs T bss hn hc hm hk2 hb hsz hl2 hr =>
      have hkk : k2 = k := by
        obtain ⟨a, r, rfl⟩ := List.exists_cons_of_ne_nil he
        rw [← hk2 a (by simp), hk a (by simp)]
      subst hkk
      have hfl : es.flatten.length = n * k2 := by rw [flatten_len hk, hn]
      have hfl' : es'.flatten.length = n * k2 := by rw [flatten_len hk', hl, hn]
      have hle : n * k2 ≤ cs.size := Nat.le_trans (Nat.mul_le_mul_right k2 hc) hsz
      have inv : Inv w (oneG w b) (hpF [.vec true k2 (es.flatten.map .e)]) := one_inv hb (by rw [List.length_map, hfl]; exact hle) fun j c d hcj hdj => by
        rw [List.getElem?_map] at hdj
        obtain ⟨e0, h0, rfl⟩ := Option.map_eq_some_iff.1 hdj
        have ht := hr j e0 h0
        have hsc := hs e0 (List.mem_of_getElem? h0)
        have hcg : cs.getD j undef = c := by
          obtain ⟨hj, e⟩ := Array.getElem?_eq_some_iff.1 hcj
          simp [Array.getD, hj, e]
        rw [hcg] at ht
        cases e0 with
        | v x =>
          generalize bss.getD j [] = bj at ht
          cases ht with
          | v hx => exact ⟨.e (.v hx), okV.cell hx⟩
        | _ => simp [E.sca] at hsc
      refine ((h1 hpos hk).ok w (oneG w b) _ inv rfl fun j x d hx hd => ?_).mono fun en w' ⟨v', d', l', G1, q1, q2, q3, q4, q5⟩ => ?_
      · rcases j with _ | _ | j
        · cases hx; cases hd
          show Rv w _ _ _ (.vec 0 es.length k2)
          rw [hn]
          refine Rv.vec (i := 0) (h := hpF [O.vec true k2 (es.flatten.map .e)]) (by simp [hpF]) hm hc fun b' k' ds' e => ?_
          simp only [id_eq, vec_hp, if_true, O.vec.injEq] at e
          obtain ⟨rfl, rfl, rfl⟩ := e
          exact ⟨rfl, by rw [List.length_map, hfl]; exact Nat.le_refl _, fun h => (by cases h), fun _ => ⟨rfl, cs, T, (0, 0), hb, hsz⟩⟩
        · cases hx; cases hd; exact .e (.v hz)
        · simp at hx
      · obtain ⟨G2, r1, r2, r3⟩ := q2 w' G1 v' q4 q3
        have x := r3 _ _ q5
        have r1 := rv_e r1
        cases r1 with | v hok => ?_
        rcases x.vec 0 true k2 _ rfl with q | ⟨ds', e1, _, g⟩
        · simp [hpF] at q
        obtain ⟨g1, g2⟩ := g rfl
        have g1 : G2.blk 0 = b := g1
        have hlt' : b < w'.heap.size := by rw [← g1]; exact r2.lt 0 (by simp [hpF, O.has])
        obtain ⟨_, cs', T', c1, c2, c3⟩ := (r2.vec 0 _ _ _ rfl).2 rfl
        rw [g1] at c1
        have hsz' : cs'.size = cs.size := by
          have g2 : w'.shape? b = w.shape? b := g2
          rw [shape_size c1, shape_size hb] at g2
          simpa using congrArg (Option.map Prod.snd) g2
        have zz : ∀ m : Nat, (List.replicate m ([] : List Nat)).flatten = [] := fun m => by
          induction m with
          | zero => rfl
          | succ m ih => rw [List.replicate_succ, List.flatten_cons, ih]; rfl
        refine ⟨q1, hok, x.os, x.tape, x.output, x.size, fun b2 hb2 hn2 => x.others b2 hb2 (fun i q e => hn2 ?_) (fun i R q => ?_), [b], (by simp), fun b2 hb2 => ?_, ?_⟩
        · have e : b = b2 := e
          rw [← e]; exact List.mem_cons_self
        · simp only [id_eq, vec_hp] at q
          split at q <;> cases q
        · rw [List.mem_singleton] at hb2
          subst hb2
          exact ⟨hlt', .inl List.mem_cons_self⟩
        · have := TreeAt.fs (w := w') (i := i) (cap := cap) (List.replicate (n * k2) []) (hl.trans hn) hc hm hk' c1 (by omega) (by simp) fun j d hd => ?_
          · rw [zz] at this
            exact this
          · have hj : j < n * k2 := by rw [← hfl']; exact (List.getElem?_eq_some_iff.1 hd).1
            have hjc : j < cs'.size := by omega
            have hsc := hs' d (List.mem_of_getElem? hd)
            have hv := (c3 j cs'[j] (.e d) (by simp [hjc]) (by rw [List.getElem?_map, hd]; rfl)).1
            have hcg : cs'.getD j undef = cs'[j] := by simp [Array.getD, hjc]
            have hrep : (List.replicate (n * k2) ([] : List Nat)).getD j [] = [] := by simp [List.getD, List.getElem?_replicate]; split <;> rfl
            rw [hcg, hrep]
            cases d with
            | v x =>
              have hv := rv_e hv
              generalize cs'[j] = c at hv
              cases hv with
              | v hx => exact .v hx
            | _ => simp [E.sca] at hsc
theorem finv_refl {A : Ar} (hA : A.Ok) {l0 l : List O} {d : D} : A.finv l0 l d l d := hA.finv _ _ _ _ _ fun _ G _ hi hr => ⟨G, hr, hi, fun _ _ e => e⟩
/-! ### Slices with slices in them -/
/-- What a cell holds: its own scalar, or the slice as it is. -/
def cellE (v : Value) : E → E
  | .v x => .v x
  | _ => .v v
def cells (vs : List Value) (L : List E) : List D := List.zipWith (fun v e => .e (cellE v e)) vs L
theorem cells_get {vs : List Value} {L : List E} {j : Nat} {v : Value} {e : E} (hv : vs[j]? = some v) (he : L[j]? = some e) : (cells vs L)[j]? = some (.e (cellE v e)) := by
  rw [cells, List.getElem?_zipWith, hv, he]
theorem cells_len {vs : List Value} {L : List E} (h : vs.length = L.length) : (cells vs L).length = L.length := by
  rw [cells, List.length_zipWith, h, Nat.min_self]
def trk : E → E
  | .v _ => .v (.bool true)
  | e => e
theorem trk_sca (e : E) : (trk e).sca = e.sca := by cases e <;> rfl
theorem trk_of {e : E} (h : e.sca = false) : trk e = e := by cases e <;> first | rfl | simp [E.sca] at h
/-- The ghost in which one block and some more are the callee's. -/
def cG (b : Nat) (v : Value) (bs : List Nat) : Gh := ⟨fun _ _ => False, fun _ => b, fun _ => none, fun _ => v, fun _ => bs⟩
theorem two_hp {k i : Nat} {ds : List D} {R : World → Value → List Nat → Prop} : hpF [O.vec true k ds, .res R] i = if i = 0 then .vec true k ds else if i = 1 then .res R else .dead := by
  match i with
  | 0 => rfl
  | 1 => rfl
  | i + 2 => simp [hpF]
theorem two_inv {w : World} {b k : Nat} {ds : List D} {cs : Array Value} {T : TypeId} {bs : List Nat} {v : Value} {R : World → Value → List Nat → Prop} (hb : w.heap[b]? = some (.cells cs T (0, 0))) (hl : ds.length ≤ cs.size) (hbb : b ∉ bs) (hlt : ∀ x ∈ bs, x < w.heap.size)
    (hR : ∀ w' : World, (∀ x ∈ bs, w'.heap[x]? = w.heap[x]?) → R w' v bs)
    (hr : ∀ (j : Nat) c d, cs[j]? = some c → ds[j]? = some d → Rv w (cG b v bs) (hpF [.vec true k ds, .res R]) c d ∧ c.oneCell' = true) : Inv w (cG b v bs) (hpF [.vec true k ds, .res R]) := by
  have no : ∀ {j : Nat} {o : O}, hpF [O.vec true k ds, .res R] j = o → (∀ b k ds, o ≠ .vec b k ds) → (∀ R, o ≠ .res R) → o = .dead := fun {j o} e h1 h2 => by
    rw [two_hp] at e
    split at e
    · exact absurd e.symm (h1 _ _ _)
    · split at e
      · exact absurd e.symm (h2 _)
      · exact e.symm
  have lt : b < w.heap.size := (Array.getElem?_eq_some_iff.1 hb).1
  have z : ∀ {i}, (hpF [O.vec true k ds, .res R] i).has = true → i = 0 := fun {i} h => by
    rw [two_hp] at h
    split at h
    · assumption
    · split at h <;> cases h
  refine ⟨fun j h => lt, fun j k h1 h2 _ => (z h1).trans (z h2).symm, fun _ _ p => p.elim, fun j ds e => ?_, fun j n k e => ?_, fun j b' k' ds' e => ?_, fun j l e => ?_, ⟨fun j b e => (by cases e), fun j k b c e => (by cases e), fun j m' e k hk => rfl, fun j k m1 m2 e1 e2 => ?_, fun j R' e => ?_⟩⟩
  · have := no e (by simp) (by simp); cases this
  · have := no e (by simp) (by simp); cases this
  · rw [two_hp] at e
    split at e
    · cases e
      exact ⟨fun h => (by cases h), fun _ => ⟨fun o p => p.elim, cs, T, hb, hl, hr⟩⟩
    · split at e <;> cases e
  · have := no e (by simp) (by simp); cases this
  · have := no e1 (by simp) (by simp); cases this
  · have one : ∀ {i R2}, hpF [O.vec true k ds, .res R] i = .res R2 → i = 1 := fun {i R2} e => by
      rw [two_hp] at e
      split at e
      · cases e
      · split at e
        · assumption
        · cases e
    have := one e
    subst this
    cases e
    exact ⟨hR, fun x hx => ⟨hlt x hx, fun o p => p.elim, fun j c e => (by cases e), fun j hj e => hbb (by have e : b = x := e; rw [e]; exact hx), fun j R' e _ => (one e).symm⟩⟩
/-- A function that writes marks into a slice with slices in it. -/
theorem markOuter {P : Program} {fn : FuncId} {k : Nat} {i : Nat} {es es' : List (List E)} {z z' : Int} (hs : ∀ j : Nat, (es'.flatten[j]?).map E.sca = (es.flatten[j]?).map E.sca) (hl : es'.length = es.length) (hk' : ∀ e ∈ es', e.length = k) (hz : okV (.int .i64 z) = true)
    (h0 : es = [] → Plain P fn [.e (.sl []), .e (.v (.int .i64 z))] (.e (.v (.int .i64 z'))))
    (h1 : 0 < es.length → (∀ e ∈ es, e.length = k) → ∀ vs : List Value, vs.length = es.flatten.length →
      Proc P fn (fun t => [.vec (t 0) es.length k, .e (.v (.int .i64 z))]) (fun _ => [.vec true k (cells vs es.flatten), .res (Trees vs (es.flatten.map trk))]) (fun _ => .e (.v (.int .i64 z')))
        (fun _ => [.vec true k (cells vs es'.flatten), .res (Trees vs (es'.flatten.map trk))])) (hk : ∀ e ∈ es, e.length = k) :
    MarkC P fn id (.fs i es) (.fs i es') z z' := by
  intro w v bs hnd hlt t
  by_cases he : es = []
  · subst he
    have he' : es' = [] := List.length_eq_zero_iff.1 hl
    subst he'
    obtain ⟨a, cap, rfl, ha⟩ := tree_nil t
    refine (h0 rfl w (pub0 w) _ pub0_inv' rfl fun j x d hx hd => ?_).mono fun en w' ⟨v', d', l', G1, q1, q2, q3, q4, q5⟩ => ?_
    · rcases j with _ | _ | j
      · cases hx; cases hd; exact .e (.nils ha)
      · cases hx; cases hd; exact .e (.v hz)
      · simp at hx
    · obtain ⟨G2, r1, r2, r3⟩ := q2 w' G1 v' q4 q3
      have x := r3 _ _ q5
      rw [hpF_nil] at x
      have r1 := rv_e r1
      cases r1 with | v hok => ?_
      exact ⟨q1, hok, x.os, x.tape, x.output, x.size, fun b hb _ => x.others b hb (fun i q => by simp [O.has] at q) fun i R q => by simp at q, [], List.nodup_nil, (fun b hb => (by cases hb)), .nil ha⟩
  · have hpos : 0 < es.length := List.length_pos_iff.2 he
    cases t with
    | nil => exact absurd rfl he
    | @fs b n cap k2 i es cs T bss hn hc hm hk2 hb hsz hl2 hr =>
      have hkk : k2 = k := by
        obtain ⟨a, r, rfl⟩ := List.exists_cons_of_ne_nil he
        rw [← hk2 a (by simp), hk a (by simp)]
      subst hkk
      have hfl : es.flatten.length = n * k2 := by rw [flatten_len hk, hn]
      have hfl' : es'.flatten.length = n * k2 := by rw [flatten_len hk', hl, hn]
      have hle : n * k2 ≤ cs.size := Nat.le_trans (Nat.mul_le_mul_right k2 hc) hsz
      obtain ⟨vs, hvs⟩ : ∃ vs : List Value, vs = (List.range (n * k2)).map fun j => cs.getD j undef := ⟨_, rfl⟩
      have vget : ∀ j, j < n * k2 → vs[j]? = some (cs.getD j undef) := fun j hj => by rw [hvs]; simp [hj]
      have vlen : vs.length = es.flatten.length := by rw [hvs, hfl]; simp
      rw [List.nodup_cons] at hnd
      have hR : ∀ w' : World, (∀ x ∈ bss.flatten, w'.heap[x]? = w.heap[x]?) → Trees vs (es.flatten.map trk) w' (.bool true) bss.flatten := fun w' hw => by
        refine ⟨hnd.2, bss, rfl, by rw [List.length_map, hfl, hl2], fun j e hj hse => ?_, fun j u e hu hj hse => ?_⟩
        · rw [List.getElem?_map] at hj
          obtain ⟨d, h0, rfl⟩ := Option.map_eq_some_iff.1 hj
          rw [trk_sca] at hse
          have ht := hr j d h0
          cases d <;> first | (simp [E.sca] at hse; done) | skip
          generalize bss.getD j [] = bj at ht ⊢
          generalize cs.getD j undef = c at ht
          cases ht; rfl
        · rw [List.getElem?_map] at hj
          obtain ⟨d, h0, rfl⟩ := Option.map_eq_some_iff.1 hj
          rw [trk_sca] at hse
          rw [trk_of hse]
          have hj2 : j < n * k2 := by rw [← hfl]; exact (List.getElem?_eq_some_iff.1 h0).1
          rw [vget j hj2] at hu
          cases hu
          exact (hr j d h0).frame fun b hb => hw b (mem_getD_flatten hb)
      have inv : Inv w (cG b (.bool true) bss.flatten) (hpF [.vec true k2 (cells vs es.flatten), .res (Trees vs (es.flatten.map trk))]) := two_inv hb (by rw [cells_len vlen, hfl]; exact hle) hnd.1 (fun x hx => hlt x (List.mem_cons_of_mem _ hx)) hR fun j c d hcj hdj => by
        have hj : j < n * k2 := by
          have := (List.getElem?_eq_some_iff.1 hdj).1
          rw [cells_len vlen, hfl] at this
          exact this
        have hcg : cs.getD j undef = c := by
          obtain ⟨hj, e⟩ := Array.getElem?_eq_some_iff.1 hcj
          simp [Array.getD, hj, e]
        have hjl : j < es.flatten.length := by omega
        have h0 : es.flatten[j]? = some es.flatten[j] := by simp [hjl]
        have ht := hr j _ h0
        rw [cells_get (vget j hj) h0, hcg] at hdj
        cases hdj
        rw [hcg] at ht
        generalize es.flatten[j] = e0 at ht ⊢
        generalize bss.getD j [] = bj at ht
        cases ht with
        | v hx => exact ⟨.e (.v hx), okV.cell hx⟩
        | nil => exact ⟨.e (.v rfl), rfl⟩
        | fs => exact ⟨.e (.v rfl), rfl⟩
      refine ((h1 hpos hk vs vlen).ok w _ _ inv rfl fun j x d hx hd => ?_).mono fun en w' ⟨v', d', l', G1, q1, q2, q3, q4, q5⟩ => ?_
      · rcases j with _ | _ | j
        · cases hx; cases hd
          show Rv w _ _ _ (.vec 0 es.length k2)
          rw [hn]
          refine Rv.vec (i := 0) (h := hpF [.vec true k2 (cells vs es.flatten), .res (Trees vs (es.flatten.map trk))]) (by simp [hpF]) hm hc fun b' k' ds' e => ?_
          simp only [id_eq, two_hp, if_true, O.vec.injEq] at e
          obtain ⟨rfl, rfl, rfl⟩ := e
          exact ⟨rfl, by rw [cells_len vlen, hfl]; exact Nat.le_refl _, fun h => (by cases h), fun _ => ⟨rfl, cs, T, (0, 0), hb, hsz⟩⟩
        · cases hx; cases hd; exact .e (.v hz)
        · simp at hx
      · obtain ⟨G2, r1, r2, r3⟩ := q2 w' G1 v' q4 q3
        have x := r3 _ _ q5
        have r1 := rv_e r1
        cases r1 with | v hok => ?_
        rcases x.vec 0 true k2 _ rfl with q | ⟨ds', e1, _, g⟩
        · simp [hpF] at q
        obtain ⟨g1, g2⟩ := g rfl
        have g1 : G2.blk 0 = b := g1
        have hlt' : b < w'.heap.size := by rw [← g1]; exact r2.lt 0 (by simp [hpF, O.has])
        obtain ⟨_, cs', T', c1, c2, c3⟩ := (r2.vec 0 _ _ _ rfl).2 rfl
        rw [g1] at c1
        have hsz' : cs'.size = cs.size := by
          have g2 : w'.shape? b = w.shape? b := g2
          rw [shape_size c1, shape_size hb] at g2
          simpa using congrArg (Option.map Prod.snd) g2
        obtain ⟨ra, rc⟩ := r2.x.res 1 _ rfl
        obtain ⟨nd', bss', eb', el', sc', sl'⟩ := ra w' fun _ _ => rfl
        have hbn : b ∉ bss'.flatten := fun hb2 => by
          rw [← eb'] at hb2
          exact (rc b hb2).2.2.2.1 0 (by simp [hpF, O.has]) g1
        refine ⟨q1, hok, x.os, x.tape, x.output, x.size, fun b2 hb2 hn2 => x.others b2 hb2 (fun i q e => hn2 ?_) (fun i R q hb3 => hn2 ?_), b :: bss'.flatten, List.nodup_cons.2 ⟨hbn, by rw [← eb']; exact nd'⟩, fun b2 hb2 => ?_, ?_⟩
        · have e : b = b2 := e
          rw [← e]; exact List.mem_cons_self
        · exact List.mem_cons_of_mem _ hb3
        · rcases List.mem_cons.1 hb2 with rfl | hb2
          · exact ⟨hlt', .inl List.mem_cons_self⟩
          · rw [← eb'] at hb2
            refine ⟨(rc b2 hb2).1, ?_⟩
            rcases x.rbnew 1 _ rfl b2 hb2 with ⟨j, R', _, q⟩ | q
            · exact .inl (List.mem_cons_of_mem _ q)
            · exact .inr q
        · refine TreeAt.fs (w := w') (i := i) (cap := cap) bss' (hl.trans hn) hc hm hk' c1 (by omega) (by rw [el', List.length_map, hfl']) fun j d hd => ?_
          have hj : j < n * k2 := by rw [← hfl']; exact (List.getElem?_eq_some_iff.1 hd).1
          have hjc : j < cs'.size := by omega
          have hcg : cs'.getD j undef = cs'[j] := by simp [Array.getD, hjc]
          have hv := rv_e (c3 j cs'[j] _ (by simp [hjc]) (cells_get (vget j hj) hd)).1
          have htd : (es'.flatten.map trk)[j]? = some (trk d) := by rw [List.getElem?_map, hd]; rfl
          rw [hcg]
          cases hsd : d.sca with
          | true =>
            rw [sc' j _ htd (by rw [trk_sca]; exact hsd)]
            cases d <;> first | (simp [E.sca] at hsd; done) | skip
            generalize cs'[j] = c at hv
            cases hv with | v hx => exact .v hx
          | false =>
            have t2 := sl' j _ _ (vget j hj) htd (by rw [trk_sca]; exact hsd)
            rw [trk_of hsd] at t2
            have hcd : cellE (cs.getD j undef) d = .v (cs.getD j undef) := by cases d <;> first | rfl | (simp [E.sca] at hsd; done)
            rw [hcd] at hv
            generalize cs'[j] = c at hv
            cases hv
            exact t2
theorem one_hp {i : Nat} {R : World → Value → List Nat → Prop} : hpF [O.res R] i = if i = 0 then .res R else .dead := by
  cases i <;> simp [hpF]
theorem res_inv {w : World} {bs : List Nat} {v : Value} {R : World → Value → List Nat → Prop} (hlt : ∀ x ∈ bs, x < w.heap.size) (hR : ∀ w' : World, (∀ x ∈ bs, w'.heap[x]? = w.heap[x]?) → R w' v bs) : Inv w (cG 0 v bs) (hpF [.res R]) := by
  have nh : ∀ j, (hpF [O.res R] j).has = false := fun j => by rw [one_hp]; split <;> rfl
  have no : ∀ {j : Nat} {o : O}, hpF [O.res R] j = o → (∀ R, o ≠ .res R) → o = .dead := fun {j o} e h1 => by
    rw [one_hp] at e
    split at e
    · exact absurd e.symm (h1 _)
    · exact e.symm
  refine ⟨fun j h => ?_, fun j k h => ?_, fun _ _ p => p.elim, fun j ds e => ?_, fun j n k e => ?_, fun j b k ds e => ?_, fun j l e => ?_, ⟨fun j b e => (by cases e), fun j k b c e => (by cases e), fun j m' e k hk => rfl, fun j k m1 m2 e1 e2 => ?_, fun j R' e => ?_⟩⟩
  · rw [nh] at h; cases h
  · rw [nh] at h; cases h
  · have := no e (by simp); cases this
  · have := no e (by simp); cases this
  · have := no e (by simp); cases this
  · have := no e (by simp); cases this
  · have := no e1 (by simp); cases this
  · have one : ∀ {i R2}, hpF [O.res R] i = .res R2 → i = 0 := fun {i R2} e => by
      rw [one_hp] at e
      split at e
      · assumption
      · cases e
    have := one e
    subst this
    cases e
    exact ⟨hR, fun x hx => ⟨hlt x hx, fun o p => p.elim, fun j c e => (by cases e), fun j hj => (by rw [nh] at hj; cases hj), fun j R' e _ => (one e).symm⟩⟩
/-- A function that hands a tree on to one that writes marks into it. -/
theorem markStruct {P : Program} {fn : FuncId} {sh : Value → Value} {e e' : E} {z z' : Int} {d : RF → D} (hz : okV (.int .i64 z) = true) (hd : ∀ (w : World) (G : Gh) (h : Hp), Rv w G h (G.rv 0) (.rv 0) → Rv w G h (sh (G.rv 0)) (d id))
    (h1 : Proc P fn (fun t => [d t, .e (.v (.int .i64 z))]) (fun _ => [.res (Tree e)]) (fun _ => .e (.v (.int .i64 z'))) (fun _ => [.res (Tree e')])) : MarkC P fn sh e e' z z' := by
  intro w v bs hnd hlt t
  have inv : Inv w (cG 0 v bs) (hpF [.res (Tree e)]) := res_inv hlt fun w' hw => ⟨hnd, t.frame hw⟩
  refine (h1.ok w _ _ inv rfl fun j x d hx hd2 => ?_).mono fun en w' ⟨v', d', l', G1, q1, q2, q3, q4, q5⟩ => ?_
  · rcases j with _ | _ | j
    · cases hx; cases hd2
      exact hd w (cG 0 v bs) (hpF [.res (Tree e)]) (Rv.rv (R := Tree e) rfl t.cell)
    · cases hx; cases hd2; exact .e (.v hz)
    · simp at hx
  · obtain ⟨G2, r1, r2, r3⟩ := q2 w' G1 v' q4 q3
    have x := r3 _ _ q5
    have r1 := rv_e r1
    cases r1 with | v hok => ?_
    obtain ⟨_, hrv⟩ := x.rvm 0 _ rfl
    have hrv : G2.rv 0 = v := hrv
    obtain ⟨ra, rc⟩ := r2.x.res 0 _ rfl
    obtain ⟨nd', t'⟩ := ra w' fun _ _ => rfl
    rw [hrv] at t'
    refine ⟨q1, hok, x.os, x.tape, x.output, x.size, fun b2 hb2 hn2 => x.others b2 hb2 (fun i q e => ?_) (fun i R q hb3 => hn2 hb3), G2.rb 0, nd', fun b2 hb2 => ⟨(rc b2 hb2).1, ?_⟩, t'⟩
    · simp only [id_eq, one_hp] at q
      split at q <;> cases q
    · rcases x.rbnew 0 _ rfl b2 hb2 with ⟨j, R', _, q⟩ | q
      · exact .inl q
      · exact .inr q
end Go.Proofs.Ytfplalbognalkaa.Ab
/- Marks in rows: what they are, and that rows keep their numbers. -/
namespace Go.Proofs.Ytfplalbognalkaa.Ab.NS
open Go
/-- A row with marks from k on. -/
def mk2 : Int → Ab.Row → Ab.Row
  | _, [] => []
  | k, _ :: l => (decide (k % 3 = 0), k + 1) :: mk2 (k + 2) l
theorem mk2_len : ∀ (k : Int) (l : Ab.Row), (mk2 k l).length = l.length
  | _, [] => rfl
  | k, _ :: l => by simp [mk2, mk2_len (k + 2) l]
theorem mk2_get : ∀ (k : Int) (l : Ab.Row) (i : Nat), i < l.length → (mk2 k l)[i]? = some (decide ((k + 2 * i) % 3 = 0), k + 2 * i + 1)
  | _, [], _, h => by simp at h
  | k, _ :: l, 0, _ => by simp [mk2]
  | k, _ :: l, i + 1, h => by
    rw [mk2, List.getElem?_cons_succ, mk2_get (k + 2) l i (by simpa using h)]
    have : k + 2 + 2 * (i : Int) = k + 2 * ((i + 1 : Nat) : Int) := by omega
    rw [this]
/-- How many marks rows take. -/
def cnt : List Row → Int
  | [] => 0
  | r :: l => 2 * r.2.length + cnt l
theorem cnt_nonneg : ∀ l : List Row, 0 ≤ cnt l
  | [] => Int.le_refl _
  | r :: l => by have := cnt_nonneg l; simp only [cnt]; omega
theorem cnt_drop {l : List Row} {i : Nat} {r : Row} (h : l[i]? = some r) : cnt (l.drop i) = 2 * r.2.length + cnt (l.drop (i + 1)) := by
  obtain ⟨a, b⟩ := List.getElem?_eq_some_iff.1 h
  rw [List.drop_eq_getElem_cons a, b]
  rfl
/-- Rows with marks from k on. -/
def mkR : Int → List Row → List Row
  | _, [] => []
  | k, r :: l => (r.1, mk2 k r.2) :: mkR (k + 2 * r.2.length) l
theorem mkR_len : ∀ (k : Int) (l : List Row), (mkR k l).length = l.length
  | _, [] => rfl
  | k, r :: l => by simp [mkR, mkR_len _ l]
theorem mkR_get : ∀ (k : Int) (l : List Row) (i : Nat) (r : Row), l[i]? = some r → (mkR k l)[i]? = some (r.1, mk2 (k + cnt l - cnt (l.drop i)) r.2)
  | _, [], _, _, h => by simp at h
  | k, a :: l, 0, r, h => by
    simp at h
    subst h
    simp only [mkR, List.getElem?_cons_zero, List.drop_zero]
    rw [show k + cnt (a :: l) - cnt (a :: l) = k by omega]
  | k, a :: l, i + 1, r, h => by
    rw [mkR, List.getElem?_cons_succ, mkR_get _ l i r (by simpa using h), List.drop_succ_cons]
    simp only [cnt]
    rw [show k + 2 * (a.2.length : Int) + cnt l - cnt (l.drop i) = k + (2 * (a.2.length : Int) + cnt l) - cnt (l.drop i) by omega]
theorem mkR_cnt : ∀ (k : Int) (l : List Row), cnt (mkR k l) = cnt l
  | _, [] => rfl
  | k, r :: l => by simp only [mkR, cnt, mk2_len, mkR_cnt _ l]
/-- One cell of a row, written. -/
theorem flat_set {α : Type} {k : Nat} : ∀ {xs : List (List α)} {i c : Nat} {r : List α} (a : α), (∀ e ∈ xs, e.length = k) → xs[i]? = some r → c < k → xs.flatten.set (i * k + c) a = (xs.set i (r.set c a)).flatten
  | [], _, _, _, _, _, h, _ => by simp at h
  | x :: xs, 0, c, r, a, hk, h, hc => by
    simp at h
    subst h
    have := hk x (by simp)
    rw [List.set_cons_zero, List.flatten_cons, List.flatten_cons, Nat.zero_mul, Nat.zero_add, List.set_append_left _ _ (by omega)]
  | x :: xs, i + 1, c, r, a, hk, h, hc => by
    have := hk x (by simp)
    rw [List.set_cons_succ, List.flatten_cons, List.flatten_cons, ← flat_set a (fun e he => hk e (by simp [he])) (by simpa using h) hc, List.set_append_right _ _ (by rw [this, Nat.succ_mul]; omega)]
    congr 2
    rw [this, Nat.succ_mul]; omega
theorem cells_set {k : Nat} {xs : List (List E)} {i c off : Nat} {r : List E} {a : E} {ds ds' : List D} (hd : ds = xs.flatten.map .e) (hk : ∀ e ∈ xs, e.length = k) (hi : xs[i]? = some r) (hc : c < k) (ho : off = i * k + c) (h : ds' = ds.take off ++ [.e a] ++ ds.drop (off + 1)) :
    ds' = (xs.set i (r.set c a)).flatten.map .e := by
  have hil : i < xs.length := (List.getElem?_eq_some_iff.1 hi).1
  have hl : off < ds.length := by
    rw [hd, List.length_map, flatten_len hk, ho]
    have : (i + 1) * k ≤ xs.length * k := Nat.mul_le_mul_right k hil
    rw [Nat.succ_mul] at this
    omega
  rw [← flat_set a hk hi hc, List.map_set, ← hd, ← ho, h, List.set_eq_take_append_cons_drop, if_pos hl]
  simp
/-! ### The numbers in rows -/
theorem numss_vr : ∀ l : Ab.Row, numss (l.map vr) = some []
  | [] => rfl
  | p :: l => by
    simp only [List.map_cons, numss, numss_vr l]
    rfl
theorem nums_ne {i : Nat} {es : List (List E)} (h : es ≠ []) : (E.fs i es).nums = (numss es).map fun l => i :: l := by
  cases es with
  | nil => exact absurd rfl h
  | cons a es => rw [E.nums]; intro h; cases h
theorem fs_vr (q : Nat) (l : Ab.Row) : ∃ ns, (E.fs q (l.map vr)).nums = some ns ∧ ns.Sublist [q] := by
  cases l with
  | nil => exact ⟨[], rfl, List.nil_sublist _⟩
  | cons p l =>
    refine ⟨[q], ?_, List.Sublist.refl _⟩
    rw [nums_ne (by simp), numss_vr]
    rfl
theorem nums_rows : ∀ L : List Row, ∃ ns, numss (L.map nrow) = some ns ∧ ns.Sublist (L.map Prod.fst)
  | [] => ⟨[], rfl, List.nil_sublist _⟩
  | r :: L => by
    obtain ⟨a, h1, h2⟩ := fs_vr r.1 r.2
    obtain ⟨b, h3, h4⟩ := nums_rows L
    refine ⟨a ++ b, ?_, ?_⟩
    · simp only [List.map_cons, numss, nrow, numsr, h1]
      rw [h3]
      simp
    · exact h2.append h4
theorem fs_nums {n : Nat} {L : List Row} (hl : ∀ r ∈ L, r.1 < n) (nd : (L.map Prod.fst).Nodup) : ∃ ns, (E.fs n (L.map nrow)).nums = some ns ∧ ns.Nodup := by
  obtain ⟨ns, h1, h2⟩ := nums_rows L
  cases L with
  | nil => exact ⟨[], rfl, List.nodup_nil⟩
  | cons r L =>
    refine ⟨n :: ns, ?_, List.nodup_cons.2 ⟨fun h => ?_, nd.sublist h2⟩⟩
    · rw [nums_ne (by simp), h1]
      rfl
    · obtain ⟨p, hp, e⟩ := List.mem_map.1 (h2.subset h)
      have := hl p hp
      omega
theorem nums_fst (q : Nat) (l : List Ab.Row) : (nums q l).map Prod.fst = List.range' q l.length := by
  induction l generalizing q with
  | nil => rfl
  | cons r l ih => rw [nums, List.map_cons, ih, List.length_cons, List.range'_succ]
theorem nums_snd (q : Nat) (l : List Ab.Row) : (nums q l).map Prod.snd = l := by
  induction l generalizing q with
  | nil => rfl
  | cons r l ih => rw [nums, List.map_cons, ih]
theorem unss_vr (l : Ab.Row) : unss (l.map vr) = l.map vr := by
  rw [unss_map, List.map_map]
  rfl
theorem un_rows (n : Nat) (L : List Row) : (E.fs n (L.map nrow)).un = .sl (L.map fun r => rsr r.2) := by
  rw [E.un, unss_map, List.map_map]
  congr 1
  refine List.map_congr_left fun r _ => ?_
  simp only [Function.comp, nrow, List.map_cons, List.map_nil, E.un, unss_vr]
theorem sl_un (l : List Ab.Row) : (E.sl (l.map rsr)).un = .sl (l.map rsr) := by
  rw [E.un, unss_map, List.map_map]
  congr 1
  refine List.map_congr_left fun r _ => ?_
  simp only [Function.comp, List.map_cons, List.map_nil, E.un, unss_vr]
/-- The rows in order. -/
def sortW (l : List Ab.Row) : List Ab.Row := Ab.srt (l.map clR)
theorem sortW_len (l : List Ab.Row) : (sortW l).length = l.length := by rw [sortW, Ab.srt_len, List.length_map]
theorem sortN_snd (q : Nat) (l : List Ab.Row) : (sortN q l).map Prod.snd = sortW l := by
  refine Ab.srt_unique (fun r h => ?_) ?_ ?_
  · obtain ⟨p, _, rfl⟩ := List.mem_map.1 h
    exact clR_cl p
  · have := (srt_perm (nums q (l.map clR))).map Prod.snd
    rw [nums_snd] at this
    exact this
  · refine List.pairwise_map.2 ((srt_srt (nums q (l.map clR))).imp fun h => ?_)
    exact h.cmp
theorem sortN_fst (q : Nat) (l : List Ab.Row) : ((sortN q l).map Prod.fst).Perm (List.range' q l.length) := by
  have := (srt_perm (nums q (l.map clR))).map Prod.fst
  rw [nums_fst, List.length_map] at this
  exact this
/-- Sorting by halves. -/
theorem sortW_halves (h : Nat) (l : List Ab.Row) : List.merge (sortW (l.take h)) (sortW (l.drop h)) Ab.leR = sortW l := by
  refine Ab.srt_unique (fun r h => ?_) ?_ ?_
  · obtain ⟨p, _, rfl⟩ := List.mem_map.1 h
    exact clR_cl p
  · refine (List.merge_perm_append (le := Ab.leR)).trans ?_
    refine ((Ab.srt_perm _).append (Ab.srt_perm _)).trans ?_
    rw [← List.map_append, List.take_append_drop]
  · have hs : ∀ l : List Ab.Row, (sortW l).Pairwise fun a b => Ab.leR a b = true := fun l => (Ab.srt_srt _).imp fun h => by simpa [Ab.leR] using h
    have := List.pairwise_merge Ab.leR_trans Ab.leR_total _ _ (hs (l.take h)) (hs (l.drop h))
    exact this.imp fun h => by simpa [Ab.leR] using h
theorem cnt_sum : ∀ (L : List Row) (l : List Ab.Row), L.map Prod.snd = l → cnt L ≤ 2 * sumC cV l
  | [], l, h => by subst h; simp [cnt, sumC]
  | r :: L, l, h => by
    subst h
    have := cnt_sum L _ rfl
    simp only [List.map_cons, cnt, sumC, cV] at *
    omega
theorem cnt_le : ∀ (L : List Row) (i : Nat), cnt (L.drop i) ≤ cnt L
  | [], i => by rw [List.drop_nil]; exact Int.le_refl _
  | r :: L, 0 => Int.le_refl _
  | r :: L, i + 1 => by
    have := cnt_le L i
    rw [List.drop_succ_cons]
    simp only [cnt]
    omega
theorem cnt_perm {a b : List Row} (h : a.Perm b) : cnt a = cnt b := by
  induction h with
  | nil => rfl
  | cons x _ ih => simp only [cnt, ih]
  | swap x y l => simp only [cnt]; omega
  | trans _ _ h1 h2 => exact h1.trans h2
theorem sumC_clR (l : List Ab.Row) : sumC cV (l.map clR) = sumC cV l := by
  induction l with
  | nil => rfl
  | cons r l ih => simp only [List.map_cons, sumC, ih, cV, clR, List.length_map]
theorem rv_id {w : World} {G : Gh} {h : Hp} {v : Value} {i : Nat} (r : Rv w G h v (.rv i)) : v = id (G.rv i) := by
  cases r; rfl
theorem sortW_one (r : Ab.Row) : sortW [r] = [clR r] := by
  simp [sortW, Ab.srt]
end Go.Proofs.Ytfplalbognalkaa.Ab.NS
/- Marks in rows, walked: rows of scalars. -/
namespace Go.Proofs.Ytfplalbognalkaa.Ab.NS
open Go
theorem vec_side {n k : Nat} {z z' : Int} {xs xs' : List E} : Side (fun t => [.vec (t 0) n k, .int z]) (fun _ => [.vec true k (xs.map .e)]) (fun _ => .int z') (fun _ => [.vec true k (xs'.map .e)]) :=
  ⟨fun t => rfl, rfl, fun t => by simp only [List.map_cons, List.map_nil, O.ren, rens_e], by intro o ho; rw [List.mem_singleton] at ho; subst ho; simp only [O.lt, lts_e], fun t => rfl, fun t => by simp only [List.map_cons, List.map_nil, O.ren, rens_e], Nat.le_refl _⟩
set_option maxRecDepth 100000 in
set_option maxHeartbeats 1000000 in
theorem ok60 (l : Ab.Row) (es : List (List E)) (he : es = l.map vr) (k : Int) (hk : 0 ≤ k) (hk2 : k + 2 * es.length ≤ 140737488355328) :
    Proc Try.prog 60 (fun t => [.vec (t 0) es.length 2, .int k]) (fun _ => [.vec true 2 (es.flatten.map .e)]) (fun _ => .int (k + 2 * es.length)) (fun _ => [.vec true 2 (((mk2 k l).map vr).flatten.map .e)]) := procOf mixed p60 vec_side fun A P hA hP => (by
  have hl1 : es.length = l.length := by rw [he]; simp
  have hes : ∀ e ∈ es, e.length = 2 := by
    rw [he]
    intro e h
    obtain ⟨p, _, rfl⟩ := List.mem_map.1 h
    rfl
  obtain ⟨ts, hts⟩ : ∃ ts, ts = (mk2 k l).map vr := ⟨_, rfl⟩
  have htl : ts.length = es.length := by rw [hts, hl1, List.length_map, mk2_len]
  have htg : ∀ i : Nat, i < es.length → ts[i]? = some [E.bool (decide ((k + 2 * i) % 3 = 0)), E.int (k + 2 * i + 1)] := fun i h => by
    rw [hts, List.getElem?_map, mk2_get k l i (by omega)]
    rfl
  obtain ⟨kr, hkr⟩ : ∃ r, r = k + 2 * (es.length : Int) := ⟨_, rfl⟩
  obtain ⟨n, hn⟩ : ∃ n, n = es.length := ⟨_, rfl⟩
  obtain ⟨ys0, hys0⟩ : ∃ ys, ys = es.flatten.map D.e := ⟨_, rfl⟩
  obtain ⟨zs, hzs⟩ : ∃ zs, zs = ts.flatten.map D.e := ⟨_, rfl⟩
  rw [← hts, ← hkr, ← hzs, ← hn, ← hys0]
  cbv
  repeat' first | with_reducible rfl | with_reducible refine And.intro ?_ ?_ | ((with_reducible intro hcc); first | (cases hcc; done) | skip) | ((with_reducible first | show goC _ _ _ _ _ _ _ _ | show goOps _ _ _ _ _ | show goD _ _ _ _ _ _); cbv) | ((with_reducible show okWr _ _ = _); rfl) | ((with_reducible first | refine hA.fin_pl _ _ _ ?_ | refine hA.len _ _ _ _ _ fun z hz hb => ?_ | refine hA.off _ _ _ _ fun b hb => ?_ | refine hA.plus _ _ _ fun b hb => ?_); cbv) | ((with_reducible first | refine hA.st _ _ _ _ _ ⟨?_, fun ds hds => ?_⟩ | refine hA.sapp _ _ _ ⟨?_, fun sl hsl => ?_⟩); rotate_left; cbv) | (simp only [hA.lits]; cbv)
  all_goals try simp only [hA.ar, inR, n_cast, Int.ofNat_eq_natCast, Option.getD_some, Option.getD_none] at *
  all_goals try omega
  refine hA.loopI (fun m s => ∃ (i k1 : Int) (xs : List (List E)), 0 ≤ i ∧ m + i = n ∧ k1 = k + 2 * i ∧ xs.length = n ∧ (∀ e ∈ xs, e.length = 2) ∧ (∀ j : Nat, j < i → xs[j]? = ts[j]?) ∧
        s = ⟨[(5, .int i), (0, .vec 0 n 2), (1, .int k1)], [.vec true 2 (xs.flatten.map .e)]⟩) n _
      (Weak.keep (env' := [(5, .int 0), (0, .vec 0 n 2), (1, .int k)]) ⟨rfl, rfl, rfl, trivial⟩)
      ⟨0, k, es, by omega, by omega, by omega, by omega, hes, fun j hj => by omega, by rw [hys0]⟩ ?_
  rintro m s K' ⟨i, k1, xs, h0, h1, hk1, h2, h3, h4, rfl⟩ hK
  obtain ⟨ys, hys⟩ : ∃ ys, ys = xs.flatten.map D.e := ⟨_, rfl⟩
  have hyl : ys.length = xs.length * 2 := by rw [hys, List.length_map, flatten_len h3]
  rw [← hys]
  by_cases hin : (0 : Int) ≤ i ∧ i < n
  · have e1 : A.lt i (Int.ofNat n) = true := by rw [hA.lt, Int.ofNat_eq_natCast]; exact decide_eq_true (by omega)
    obtain ⟨b0, hb0⟩ : ∃ b, b = A.eq (A.mod k1 3) 0 := ⟨_, rfl⟩
    have hb1 : b0 = decide (k1 % 3 = 0) := by rw [hb0, hA.eq, hA.mod]
    have hK2 : ∀ (b c : Nat) (ds1 ds2 : List D) (env : List (Nat × D)), ds2 = ds1.take c ++ [.e (E.int (k1 + 1))] ++ ds1.drop (c + 1) → ds1 = ys.take b ++ [.e (E.bool b0)] ++ ys.drop (b + 1) → b = 0 + i.toNat * 2 → c = 0 + i.toNat * 2 + 1 →
        subL [(5, .int (i + 1)), (0, .vec 0 n 2), (1, .int (k1 + 1 + 1))] env → K' ⟨env, [.vec true 2 ds2]⟩ := fun b c ds1 ds2 env q4 q3 q1 q2 q5 => by
      obtain ⟨r, hr⟩ : ∃ r, xs[i.toNat]? = some r := ⟨_, List.getElem?_eq_getElem (by omega)⟩
      have hrl := h3 r (List.mem_of_getElem? hr)
      have d1 := cells_set hys h3 hr (c := 0) (by omega) (by omega) q3
      have h3' : ∀ e ∈ xs.set i.toNat (r.set 0 (E.bool b0)), e.length = 2 := fun e h => by
        rcases List.mem_or_eq_of_mem_set h with h | rfl
        · exact h3 e h
        · rw [List.length_set]; exact hrl
      have d2 := cells_set d1 h3' (List.getElem?_set_self (by omega)) (c := 1) (by omega) (by omega) q4
      rw [List.set_set] at d2
      have hrow : (r.set 0 (E.bool b0)).set 1 (E.int (k1 + 1)) = [E.bool b0, E.int (k1 + 1)] := by
        match r, hrl with
        | [x, y], _ => rfl
      rw [hrow] at d2
      refine hK _ (m - 1) _ (by omega) (Weak.keep q5) ⟨i + 1, k1 + 1 + 1, xs.set i.toNat [E.bool b0, E.int (k1 + 1)], by omega, by omega, by omega, by rw [List.length_set]; exact h2, fun e h => ?_, fun j hj => ?_, by rw [d2]⟩
      · rcases List.mem_or_eq_of_mem_set h with h | rfl
        · exact h3 e h
        · rfl
      · by_cases hji : (j : Int) < i
        · rw [List.getElem?_set_ne (show i.toNat ≠ j by omega)]; exact h4 j hji
        · have : j = i.toNat := by omega
          subst this
          rw [List.getElem?_set_self (by omega), htg _ (by omega), hb1, hk1, show k + 2 * i = k + 2 * ((i.toNat : Nat) : Int) by omega]
    clear hK h4 htg hts he
    cbv
    repeat' first | with_reducible rfl | (simp only [e1, ← hb0]; cbv) | with_reducible refine And.intro ?_ ?_ | ((with_reducible intro hcc); first | (cases hcc; done) | skip) | ((with_reducible first | show goC _ _ _ _ _ _ _ _ | show goOps _ _ _ _ _ | show goD _ _ _ _ _ _); cbv) | ((with_reducible show okWr _ _ = _); rfl) | ((with_reducible first | refine hA.fin_pl _ _ _ ?_ | refine hA.len _ _ _ _ _ fun z hz hb => ?_ | refine hA.off _ _ _ _ fun b hb => ?_ | refine hA.plus _ _ _ fun b hb => ?_); cbv) | ((with_reducible first | refine hA.st _ _ _ _ _ ⟨?_, fun ds hds => ?_⟩ | refine hA.sapp _ _ _ ⟨?_, fun sl hsl => ?_⟩); rotate_left; cbv) | (simp only [hA.lits]; cbv)
    all_goals try simp only [hA.ar, inR, n_cast, Int.ofNat_eq_natCast, Option.getD_some, Option.getD_none] at *
    all_goals first
      | omega
      | exact hK2 _ _ _ _ _ (by assumption) (by assumption) (by omega) (by omega) ⟨rfl, rfl, rfl, trivial⟩
      | exact finv_refl hA
      | (subst_vars; simp only [List.length_append, List.length_take, List.length_drop, List.length_cons, List.length_nil]; omega)
      | (trace_state; fail)
  · have e1 : A.lt i (Int.ofNat n) = false := by rw [hA.lt, Int.ofNat_eq_natCast]; exact decide_eq_false (by omega)
    have hxe : xs = ts := by
      refine List.ext_getElem? fun j => ?_
      by_cases hj : (j : Int) < i
      · exact h4 j hj
      · rw [List.getElem?_eq_none (by omega), List.getElem?_eq_none (by omega)]
    have hyz : ys = zs := by rw [hys, hzs, hxe]
    have hkk : k1 = kr := by omega
    subst hyz hkk
    clear hK h4 htg hts he
    cbv
    repeat' first | with_reducible rfl | (simp only [e1]; cbv) | with_reducible refine And.intro ?_ ?_ | ((with_reducible intro hcc); first | (cases hcc; done) | skip) | ((with_reducible first | show goC _ _ _ _ _ _ _ _ | show goOps _ _ _ _ _ | show goD _ _ _ _ _ _); cbv) | ((with_reducible show okWr _ _ = _); rfl) | ((with_reducible first | refine hA.fin_pl _ _ _ ?_ | refine hA.len _ _ _ _ _ fun z hz hb => ?_ | refine hA.off _ _ _ _ fun b hb => ?_ | refine hA.plus _ _ _ fun b hb => ?_); cbv) | ((with_reducible first | refine hA.st _ _ _ _ _ ⟨?_, fun ds hds => ?_⟩ | refine hA.sapp _ _ _ ⟨?_, fun sl hsl => ?_⟩); rotate_left; cbv) | (simp only [hA.lits]; cbv)
    all_goals try simp only [hA.ar, inR, n_cast, Int.ofNat_eq_natCast, Option.getD_some, Option.getD_none] at *
    all_goals first
      | omega
      | exact finv_refl hA
      | (subst_vars; simp only [List.length_append, List.length_take, List.length_drop, List.length_cons, List.length_nil]; omega)
      | (trace_state; fail))
end Go.Proofs.Ytfplalbognalkaa.Ab.NS
/- Marks in rows of rows, walked. -/
namespace Go.Proofs.Ytfplalbognalkaa.Ab.NS
open Go
set_option maxRecDepth 100000 in
theorem ok60z (k : Int) (hk : 0 ≤ k) (hk2 : k ≤ 140737488355328) : Plain Try.prog 60 [.e (.sl []), .int k] (.int k) := okOf mixed p60 fun A P hA hP => (by
  obtain ⟨es, hes⟩ : ∃ es : List (List E), es = [] := ⟨_, rfl⟩
  have hl : es.length = 0 := by rw [hes]; rfl
  obtain ⟨i0, hi0⟩ : ∃ i : Int, i = 0 := ⟨_, rfl⟩
  obtain ⟨z1, hz1⟩ : ∃ z : Int, z = es.length := ⟨_, rfl⟩
  rw [← hes]
  cbv
  repeat' first | with_reducible rfl | with_reducible refine And.intro ?_ ?_ | ((with_reducible intro hcc); first | (cases hcc; done) | skip) | ((with_reducible first | show goC _ _ _ _ _ _ _ _ | show goOps _ _ _ _ _ | show goD _ _ _ _ _ _); cbv) | ((with_reducible show okWr _ _ = _); rfl) | ((with_reducible first | refine hA.fin_pl _ _ _ ?_ | refine hA.len _ _ _ _ _ fun z hz hb => ?_ | refine hA.off _ _ _ _ fun b hb => ?_ | refine hA.plus _ _ _ fun b hb => ?_); cbv) | ((with_reducible first | refine hA.st _ _ _ _ _ ⟨?_, fun ds hds => ?_⟩ | refine hA.sapp _ _ _ ⟨?_, fun sl hsl => ?_⟩); rotate_left; cbv) | (simp only [hA.lits]; cbv)
  all_goals try simp only [hA.ar, inR, n_cast, Int.ofNat_eq_natCast, Option.getD_some, Option.getD_none] at *
  all_goals try omega
  refine hA.loopI (fun m s => s = ⟨[(5, .int i0), (0, .e (.sl es)), (1, .int k)], []⟩) 0 _
      (Weak.keep (env' := [(5, .int i0), (0, .e (.sl es)), (1, .int k)]) ⟨by rw [hi0]; rfl, rfl, rfl, trivial⟩) rfl ?_
  rintro m s K' rfl hK
  have e1 : A.lt i0 z1 = false := by rw [hA.lt]; exact decide_eq_false (by omega)
  cbv
  repeat' first | with_reducible rfl | (simp only [e1]; cbv) | with_reducible refine And.intro ?_ ?_ | ((with_reducible intro hcc); first | (cases hcc; done) | skip) | ((with_reducible first | show goC _ _ _ _ _ _ _ _ | show goOps _ _ _ _ _ | show goD _ _ _ _ _ _); cbv) | ((with_reducible show okWr _ _ = _); rfl) | ((with_reducible refine hA.len es _ _ _ _ fun z hz hb => ?_); (have e6 := hz1.trans hz.symm); subst e6; cbv) | ((with_reducible first | refine hA.fin_pl _ _ _ ?_ | refine hA.len _ _ _ _ _ fun z hz hb => ?_ | refine hA.off _ _ _ _ fun b hb => ?_ | refine hA.plus _ _ _ fun b hb => ?_); cbv) | ((with_reducible first | refine hA.st _ _ _ _ _ ⟨?_, fun ds hds => ?_⟩ | refine hA.sapp _ _ _ ⟨?_, fun sl hsl => ?_⟩); rotate_left; cbv) | (simp only [hA.lits]; cbv)
  all_goals try simp only [hA.ar, inR, n_cast, Int.ofNat_eq_natCast, Option.getD_some, Option.getD_none] at *
  all_goals first
    | omega
    | (trace_state; fail))
def fse (r : Row) : E := .fs r.1 (r.2.map vr)
theorem flat_nrow (L : List Row) : (L.map nrow).flatten = L.map fse := by
  induction L with
  | nil => rfl
  | cons r L ih => rw [List.map_cons, List.flatten_cons, ih]; rfl
theorem trk_fse (L : List Row) : (L.map fse).map trk = L.map fse := by
  rw [List.map_map]
  rfl
theorem cells_fse : ∀ (vs : List Value) (L : List Row), vs.length = L.length → cells vs (L.map fse) = vs.map fun v => .e (.v v)
  | [], [], _ => rfl
  | v :: vs, r :: L, h => by
    have := cells_fse vs L (by simpa using h)
    simp only [cells, List.map_cons, List.zipWith_cons_cons] at this ⊢
    rw [this]
    rfl
  | [], _ :: _, h => by simp at h
  | _ :: _, [], h => by simp at h
theorem okV_int {k : Int} (h : 0 ≤ k) (h2 : k ≤ 140737488355328) : okV (.int .i64 k) = true := by
  simp only [okV, decide_eq_true_eq]
  have h3 : IntKind.i64.min = -9223372036854775808 := by decide
  have h4 : IntKind.i64.max = 9223372036854775807 := by decide
  omega
theorem sca_vr (l : Ab.Row) : ∀ e ∈ (l.map vr).flatten, e.sca = true := fun e h => by
  obtain ⟨x, h1, h2⟩ := List.mem_flatten.1 h
  obtain ⟨p, _, rfl⟩ := List.mem_map.1 h1
  simp only [List.mem_cons, List.not_mem_nil, or_false] at h2
  rcases h2 with rfl | rfl <;> rfl
theorem len_vr (l : Ab.Row) : ∀ e ∈ l.map vr, e.length = 2 := fun e h => by
  obtain ⟨p, _, rfl⟩ := List.mem_map.1 h
  rfl
theorem mark81 (r : Row) (k : Int) (hk : 0 ≤ k) (hk2 : k + 2 * r.2.length ≤ 140737488355328) : MarkC Try.prog 60 id (fse r) (fse (r.1, mk2 k r.2)) k (k + 2 * r.2.length) := by
  refine markLeaf (k := 2) (sca_vr _) (sca_vr _) (by simp [mk2_len]) (len_vr _) (okV_int hk (by omega)) (fun h => ?_) (fun _ _ => ?_) (len_vr _)
  · have h : r.2 = [] := by simpa using h
    rw [h]
    have := ok60z k hk (by omega)
    simpa using this
  · have := ok60 r.2 (r.2.map vr) rfl k hk (by simpa using hk2)
    simp only [List.length_map] at this ⊢
    exact this
theorem res_side {n k : Nat} {z z' : Int} {xs xs' : List E} {R R' : World → Value → List Nat → Prop} : Side (fun t => [.vec (t 0) n k, .int z]) (fun _ => [.vec true k (xs.map .e), .res R]) (fun _ => .int z') (fun _ => [.vec true k (xs'.map .e), .res R']) :=
  ⟨fun t => rfl, rfl, fun t => by simp only [List.map_cons, List.map_nil, O.ren, rens_e], by intro o ho; simp only [List.mem_cons, List.not_mem_nil, or_false] at ho; rcases ho with rfl | rfl <;> simp only [O.lt, lts_e], fun t => rfl, fun t => by simp only [List.map_cons, List.map_nil, O.ren, rens_e], Nat.le_refl _⟩
set_option maxRecDepth 100000 in
set_option maxHeartbeats 1000000 in
theorem w50 (L : List Row) (vs : List Value) (hv : vs.length = L.length) (k : Int) (hk : 0 ≤ k) (hk2 : k + cnt L ≤ 140737488355328) (hlen : L.length ≤ 1048576) :
    Proc Try.prog 20 (fun t => [.vec (t 0) L.length 1, .int k]) (fun _ => [.vec true 1 ((vs.map E.v).map .e), .res (Trees vs (L.map fse))]) (fun _ => .int (k + cnt L)) (fun _ => [.vec true 1 ((vs.map E.v).map .e), .res (Trees vs ((mkR k L).map fse))]) := procOf mixed p20 res_side fun A P hA hP => (by
  obtain ⟨kr, hkr⟩ : ∃ r, r = k + cnt L := ⟨_, rfl⟩
  obtain ⟨n, hn⟩ : ∃ n, n = L.length := ⟨_, rfl⟩
  obtain ⟨ds, hds⟩ : ∃ ds : List D, ds = (vs.map E.v).map .e := ⟨_, rfl⟩
  have hdl : ds.length = n := by rw [hds, hn, ← hv]; simp
  obtain ⟨R0, hR0⟩ : ∃ R, R = Trees vs (L.map fse) := ⟨_, rfl⟩
  obtain ⟨RF, hRF⟩ : ∃ R, R = Trees vs ((mkR k L).map fse) := ⟨_, rfl⟩
  rw [← hkr, ← hn, ← hds, ← hR0, ← hRF]
  cbv
  repeat' first | with_reducible rfl | with_reducible refine And.intro ?_ ?_ | ((with_reducible intro hcc); first | (cases hcc; done) | skip) | ((with_reducible first | show goC _ _ _ _ _ _ _ _ | show goOps _ _ _ _ _ | show goD _ _ _ _ _ _); cbv) | ((with_reducible show okWr _ _ = _); rfl) | ((with_reducible first | refine hA.fin_pl _ _ _ ?_ | refine hA.len _ _ _ _ _ fun z hz hb => ?_ | refine hA.off _ _ _ _ fun b hb => ?_); cbv) | ((with_reducible first | refine hA.sapp _ _ _ ⟨?_, fun sl hsl => ?_⟩); rotate_left; cbv) | (simp only [hA.lits]; cbv)
  all_goals try simp only [hA.ar, inR, n_cast, Int.ofNat_eq_natCast, Option.getD_some, Option.getD_none] at *
  all_goals try omega
  refine hA.loopI (fun m s => ∃ (i k1 : Int) (ts : List E), 0 ≤ i ∧ m + i = n ∧ k1 = k + cnt L - cnt (L.drop i.toNat) ∧ ts.length = n ∧ (∀ j : Nat, j < i → ts[j]? = ((mkR k L).map fse)[j]?) ∧ (∀ j : Nat, i ≤ j → ts[j]? = (L.map fse)[j]?) ∧
        s = ⟨[(5, .int i), (0, .vec 0 n 1), (1, .int k1)], [.vec true 1 ds, .res (Trees vs ts)]⟩) n _
      (Weak.keep (env' := [(5, .int 0), (0, .vec 0 n 1), (1, .int k)]) ⟨rfl, rfl, rfl, trivial⟩)
      ⟨0, k, L.map fse, by omega, by omega, (by rw [show (0 : Int).toNat = 0 from rfl, List.drop_zero]; omega), by rw [List.length_map, hn], (fun j hj => by omega), fun j _ => rfl, by rw [hR0]⟩ ?_
  rintro m s K' ⟨i, k1, ts, h0, h1, hk1, h2, h3, h4, rfl⟩ hK
  obtain ⟨R1, hR1⟩ : ∃ R, R = Trees vs ts := ⟨_, rfl⟩
  rw [← hR1]
  by_cases hin : (0 : Int) ≤ i ∧ i < n
  · have e1 : A.lt i (Int.ofNat n) = true := by rw [hA.lt, Int.ofNat_eq_natCast]; exact decide_eq_true (by omega)
    obtain ⟨r, hr⟩ : ∃ r, L[i.toNat]? = some r := ⟨_, List.getElem?_eq_getElem (by omega)⟩
    obtain ⟨v, hvi⟩ : ∃ v, vs[i.toNat]? = some v := ⟨_, List.getElem?_eq_getElem (by omega)⟩
    have hdr := cnt_drop hr
    have hc0 := cnt_nonneg (L.drop (i.toNat + 1))
    have hc1 := cnt_nonneg L
    have hcd : cnt (L.drop i.toNat) ≤ cnt L := cnt_le L i.toNat
    have ld : ∀ {b : Nat} {c : D}, b = 0 + i.toNat * 1 → c = ds.getD b default → c = .e (.v v) := fun {b c} q1 q2 => by
      rw [q2, hds, show b = i.toNat by omega, List.getD, List.getElem?_map, List.getElem?_map, hvi]
      rfl
    obtain ⟨k2, hk2'⟩ : ∃ k, k = k1 + 2 * (r.2.length : Int) := ⟨_, rfl⟩
    have hmk := mark81 r k1 (by omega) (by omega)
    rw [← hk2'] at hmk
    have hti : ts[i.toNat]? = some (fse r) := by rw [h4 i.toNat (by omega), List.getElem?_map, hr]; rfl
    obtain ⟨R2, hR2⟩ : ∃ R, R = Trees vs (ts.set i.toNat (fse (r.1, mk2 k1 r.2))) := ⟨_, rfl⟩
    have hcal : ∀ f, CallE Try.prog 60 [.e (.v v), .int k1] [(1, .res R1)] f { d := some (.int k2), wr := [(1, .res R2)], tc := [1] } := fun f => by
      rw [hR1, hR2]
      exact hmk.callEs hvi hti rfl rfl
    have hK2 : ∀ (env : List (Nat × D)), subL [(5, .int (i + 1)), (0, .vec 0 n 1), (1, .int k2)] env → K' ⟨env, [.vec true 1 ds, .res R2]⟩ := fun env q5 => by
      refine hK _ (m - 1) _ (by omega) (Weak.keep q5) ⟨i + 1, k2, _, by omega, by omega, ?_, ?_, fun j hj => ?_, fun j hj => ?_, by rw [hR2]⟩
      · rw [show (i + 1).toNat = i.toNat + 1 by omega]; omega
      · rw [List.length_set]; exact h2
      · by_cases hji : (j : Int) < i
        · rw [List.getElem?_set_ne (show i.toNat ≠ j by omega)]; exact h3 j hji
        · have : j = i.toNat := by omega
          subst this
          rw [List.getElem?_set_self (by omega), List.getElem?_map, mkR_get _ _ _ _ hr, hk1]
          rfl
      · rw [List.getElem?_set_ne (show i.toNat ≠ j by omega)]; exact h4 j (by omega)
    clear hK h3 h4 hti hmk hk1 hdr hk2' hR1 hR2
    cbv
    repeat' first | with_reducible rfl | (simp only [e1]; cbv) | with_reducible refine And.intro ?_ ?_ | ((with_reducible intro hcc); first | (cases hcc; done) | skip) | ((with_reducible first | show goC _ _ _ _ _ _ _ _ | show goOps _ _ _ _ _ | show goD _ _ _ _ _ _); cbv) | ((with_reducible show okWr _ _ = _); rfl) | ((with_reducible show A.call _ _ _ _ _ 60 _ _ _); refine callK_res hA hP rfl ?_ hcal; cbv) | ((with_reducible refine hA.ld1 _ _ _ ⟨?_, fun c hc => ?_⟩); rotate_left; (have e9 := ld hb hc); subst e9; cbv) | ((with_reducible first | refine hA.fin_pl _ _ _ ?_ | refine hA.len _ _ _ _ _ fun z hz hb => ?_ | refine hA.off _ _ _ _ fun b hb => ?_); cbv) | ((with_reducible first | refine hA.sapp _ _ _ ⟨?_, fun sl hsl => ?_⟩); rotate_left; cbv) | (simp only [hA.lits]; cbv)
    all_goals try simp only [hA.ar, inR, n_cast, Int.ofNat_eq_natCast, Option.getD_some, Option.getD_none] at *
    all_goals first
      | omega
      | exact hK2 _ ⟨rfl, rfl, rfl, trivial⟩
      | exact finv_refl hA
      | (trace_state; fail)
  · have e1 : A.lt i (Int.ofNat n) = false := by rw [hA.lt, Int.ofNat_eq_natCast]; exact decide_eq_false (by omega)
    have hte : ts = (mkR k L).map fse := by
      refine List.ext_getElem? fun j => ?_
      by_cases hj : (j : Int) < i
      · exact h3 j hj
      · rw [List.getElem?_eq_none (by omega), List.getElem?_eq_none (by rw [List.length_map, mkR_len]; omega)]
    have hRR : R1 = RF := by rw [hR1, hRF, hte]
    have hkk : k1 = kr := by
      rw [List.drop_eq_nil_of_le (by omega)] at hk1
      simp only [cnt] at hk1
      omega
    subst hRR hkk
    clear hK h3 h4
    cbv
    repeat' first | with_reducible rfl | (simp only [e1]; cbv) | with_reducible refine And.intro ?_ ?_ | ((with_reducible intro hcc); first | (cases hcc; done) | skip) | ((with_reducible first | show goC _ _ _ _ _ _ _ _ | show goOps _ _ _ _ _ | show goD _ _ _ _ _ _); cbv) | ((with_reducible show okWr _ _ = _); rfl) | ((with_reducible first | refine hA.fin_pl _ _ _ ?_ | refine hA.len _ _ _ _ _ fun z hz hb => ?_ | refine hA.off _ _ _ _ fun b hb => ?_); cbv) | ((with_reducible first | refine hA.sapp _ _ _ ⟨?_, fun sl hsl => ?_⟩); rotate_left; cbv) | (simp only [hA.lits]; cbv)
    all_goals try simp only [hA.ar, inR, n_cast, Int.ofNat_eq_natCast, Option.getD_some, Option.getD_none] at *
    all_goals first
      | omega
      | exact finv_refl hA
      | (trace_state; fail))
theorem ok20z (k : Int) (hk : 0 ≤ k) (hk2 : k ≤ 140737488355328) : Plain Try.prog 20 [.e (.sl []), .int k] (.int k) := okOf mixed p20 fun A P hA hP => (by
  obtain ⟨es, hes⟩ : ∃ es : List (List E), es = [] := ⟨_, rfl⟩
  have hl : es.length = 0 := by rw [hes]; rfl
  obtain ⟨i0, hi0⟩ : ∃ i : Int, i = 0 := ⟨_, rfl⟩
  obtain ⟨z1, hz1⟩ : ∃ z : Int, z = es.length := ⟨_, rfl⟩
  rw [← hes]
  cbv
  repeat' first | with_reducible rfl | with_reducible refine And.intro ?_ ?_ | ((with_reducible intro hcc); first | (cases hcc; done) | skip) | ((with_reducible first | show goC _ _ _ _ _ _ _ _ | show goOps _ _ _ _ _ | show goD _ _ _ _ _ _); cbv) | ((with_reducible show okWr _ _ = _); rfl) | ((with_reducible first | refine hA.fin_pl _ _ _ ?_ | refine hA.len _ _ _ _ _ fun z hz hb => ?_ | refine hA.off _ _ _ _ fun b hb => ?_); cbv) | ((with_reducible first | refine hA.sapp _ _ _ ⟨?_, fun sl hsl => ?_⟩); rotate_left; cbv) | (simp only [hA.lits]; cbv)
  all_goals try simp only [hA.ar, inR, n_cast, Int.ofNat_eq_natCast, Option.getD_some, Option.getD_none] at *
  all_goals try omega
  refine hA.loopI (fun m s => s = ⟨[(5, .int i0), (0, .e (.sl es)), (1, .int k)], []⟩) 0 _
      (Weak.keep (env' := [(5, .int i0), (0, .e (.sl es)), (1, .int k)]) ⟨by rw [hi0]; rfl, rfl, rfl, trivial⟩) rfl ?_
  rintro m s K' rfl hK
  have e1 : A.lt i0 z1 = false := by rw [hA.lt]; exact decide_eq_false (by omega)
  cbv
  repeat' first | with_reducible rfl | (simp only [e1]; cbv) | with_reducible refine And.intro ?_ ?_ | ((with_reducible intro hcc); first | (cases hcc; done) | skip) | ((with_reducible first | show goC _ _ _ _ _ _ _ _ | show goOps _ _ _ _ _ | show goD _ _ _ _ _ _); cbv) | ((with_reducible show okWr _ _ = _); rfl) | ((with_reducible refine hA.len es _ _ _ _ fun z hz hb => ?_); (have e6 := hz1.trans hz.symm); subst e6; cbv) | ((with_reducible first | refine hA.fin_pl _ _ _ ?_ | refine hA.len _ _ _ _ _ fun z hz hb => ?_ | refine hA.off _ _ _ _ fun b hb => ?_); cbv) | ((with_reducible first | refine hA.sapp _ _ _ ⟨?_, fun sl hsl => ?_⟩); rotate_left; cbv) | (simp only [hA.lits]; cbv)
  all_goals try simp only [hA.ar, inR, n_cast, Int.ofNat_eq_natCast, Option.getD_some, Option.getD_none] at *
  all_goals first
    | omega
    | (trace_state; fail))
theorem ok20 (L : List Row) (n : Nat) (k : Int) (hk : 0 ≤ k) (hk2 : k + cnt L ≤ 140737488355328) (hlen : L.length ≤ 1048576) : MarkC Try.prog 20 id (.fs n (L.map nrow)) (.fs n ((mkR k L).map nrow)) k (k + cnt L) := by
  have h0 := cnt_nonneg L
  have hs : ∀ (L : List Row) (j : Nat), ((L.map nrow).flatten[j]?).map E.sca = (L[j]?).map fun _ => false := fun L j => by
    rw [flat_nrow, List.getElem?_map, Option.map_map]
    rfl
  have hk1 : ∀ (L : List Row), ∀ e ∈ L.map nrow, e.length = 1 := fun L e h => by
    obtain ⟨p, _, rfl⟩ := List.mem_map.1 h
    rfl
  refine markOuter (k := 1) (fun j => ?_) (by simp [mkR_len]) (hk1 _) (okV_int hk (by omega)) (fun h => ?_) (fun _ _ vs hvs => ?_) (hk1 _)
  · rw [hs, hs]
    by_cases hj : j < L.length
    · rw [List.getElem?_eq_getElem (l := L) hj, List.getElem?_eq_getElem (l := mkR k L) (by rw [mkR_len]; exact hj)]
      rfl
    · rw [List.getElem?_eq_none (l := L) (by omega), List.getElem?_eq_none (l := mkR k L) (by rw [mkR_len]; omega)]
  · have h : L = [] := by simpa using h
    rw [h]
    have := ok20z k hk (by omega)
    simpa [cnt] using this
  · rw [flat_nrow, List.length_map] at hvs
    have := w50 L vs hvs k hk hk2 hlen
    rw [flat_nrow, flat_nrow, trk_fse, trk_fse, cells_fse _ _ hvs, cells_fse _ _ (hvs.trans (mkR_len _ _).symm), List.length_map]
    rw [List.map_map] at this
    exact this
end Go.Proofs.Ytfplalbognalkaa.Ab.NS
/- Marks in rows, asked for. -/
namespace Go.Proofs.Ytfplalbognalkaa.Ab.NS
open Go
theorem mk2_drop (k : Int) (l : Ab.Row) : ∀ i : Nat, i < l.length → (mk2 k l).getD i (false, 0) = (decide ((k + 2 * i) % 3 = 0), k + 2 * i + 1) := fun i h => by
  rw [List.getD, mk2_get k l i h]
  rfl
set_option maxRecDepth 100000 in
set_option maxHeartbeats 1000000 in
theorem ok61 (l : Ab.Row) (es : List (List E)) (k : Int) (he : es = (mk2 k l).map vr) (hk : 0 ≤ k) (hk2 : k + 2 * es.length ≤ 140737488355328) : Plain Try.prog 61 [.e (.sl es), .int k] (.int (k + 2 * es.length)) := okOf mixed p61 fun A P hA hP => (by
  have hl1 : es.length = l.length := by rw [he, List.length_map, mk2_len]
  have htg : ∀ i : Nat, i < es.length → es.getD i [] = [E.bool (decide ((k + 2 * i) % 3 = 0)), E.int (k + 2 * i + 1)] := fun i h => by
    rw [List.getD, he, List.getElem?_map, mk2_get k l i (by omega)]
    rfl
  obtain ⟨kr, hkr⟩ : ∃ r, r = k + 2 * (es.length : Int) := ⟨_, rfl⟩
  obtain ⟨ze, hze⟩ : ∃ z : Int, z = es.length := ⟨_, rfl⟩
  rw [← hkr]
  cbv
  repeat' first | with_reducible rfl | with_reducible refine And.intro ?_ ?_ | ((with_reducible intro hcc); first | (cases hcc; done) | skip) | ((with_reducible first | show goC _ _ _ _ _ _ _ _ | show goOps _ _ _ _ _ | show goD _ _ _ _ _ _); cbv) | ((with_reducible show okWr _ _ = _); rfl) | ((with_reducible first | refine hA.fin_pl _ _ _ ?_ | refine hA.len _ _ _ _ _ fun z hz hb => ?_ | refine hA.off _ _ _ _ fun b hb => ?_ | refine hA.plus _ _ _ fun b hb => ?_); cbv) | ((with_reducible first | refine hA.sapp _ _ _ ⟨?_, fun sl hsl => ?_⟩); rotate_left; cbv) | (simp only [hA.lits]; cbv)
  all_goals try simp only [hA.ar, inR, n_cast, Int.ofNat_eq_natCast, Option.getD_some, Option.getD_none] at *
  all_goals try omega
  refine hA.loopI (fun m s => ∃ (i k1 : Int), 0 ≤ i ∧ m + i = es.length ∧ k1 = k + 2 * i ∧ s = ⟨[(5, .int i), (0, .e (.sl es)), (1, .int k1)], []⟩) es.length _
      (Weak.keep (env' := [(5, .int 0), (0, .e (.sl es)), (1, .int k)]) ⟨rfl, rfl, rfl, trivial⟩) ⟨0, k, by omega, by omega, by omega, rfl⟩ ?_
  rintro m s K' ⟨i, k1, h0, h1, hk1, rfl⟩ hK
  by_cases hin : (0 : Int) ≤ i ∧ i < es.length
  · have e1 : A.lt i ze = true := by rw [hA.lt]; exact decide_eq_true (by omega)
    obtain ⟨b0, hb0⟩ : ∃ b, b = A.eq (A.mod k1 3) 0 := ⟨_, rfl⟩
    have hb1 : b0 = decide (k1 % 3 = 0) := by rw [hb0, hA.eq, hA.mod]
    have hrow0 : es.getD i.toNat [] = [E.bool b0, E.int (k1 + 1)] := by
      rw [htg _ (by omega), hb1, hk1, show k + 2 * i = k + 2 * ((i.toNat : Nat) : Int) by omega]
    obtain ⟨k3, hk3⟩ : ∃ k, k = A.add k1 1 := ⟨_, rfl⟩
    have hk3' : k3 = k1 + 1 := by rw [hk3, hA.add]
    rw [← hk3'] at hrow0
    have e2 : A.eq k3 k3 = true := by rw [hA.eq]; exact decide_eq_true rfl
    have hK2 : ∀ (env : List (Nat × D)), subL [(5, .int (i + 1)), (0, .e (.sl es)), (1, .int (k3 + 1))] env → K' ⟨env, []⟩ := fun env q =>
      hK _ (m - 1) _ (by omega) (Weak.keep q) ⟨i + 1, k3 + 1, by omega, by omega, by omega, rfl⟩
    clear hK htg he hb1
    cases b0
    all_goals
      cbv
      repeat' first | with_reducible rfl | (simp only [e1, ← hk3, ← hb0, e2]; cbv) | with_reducible refine And.intro ?_ ?_ | ((with_reducible intro hcc); first | (cases hcc; done) | skip) | ((with_reducible first | show goC _ _ _ _ _ _ _ _ | show goOps _ _ _ _ _ | show goD _ _ _ _ _ _); cbv) | ((with_reducible show okWr _ _ = _); rfl) | ((with_reducible refine hA.len es _ _ _ _ fun z hz hb => ?_); (have e6 := hze.trans hz.symm); subst e6; cbv) | ((with_reducible refine hA.row es i _ ⟨hin, fun row hrow => ?_⟩); rw [hrow0] at hrow; subst hrow; cbv) | ((with_reducible first | refine hA.fin_pl _ _ _ ?_ | refine hA.len _ _ _ _ _ fun z hz hb => ?_ | refine hA.off _ _ _ _ fun b hb => ?_ | refine hA.plus _ _ _ fun b hb => ?_); cbv) | ((with_reducible first | refine hA.sapp _ _ _ ⟨?_, fun sl hsl => ?_⟩); rotate_left; cbv) | (simp only [hA.lits]; cbv)
      all_goals try simp only [hA.ar, inR, n_cast, Int.ofNat_eq_natCast, Option.getD_some, Option.getD_none] at *
    all_goals first
      | omega
      | exact hK2 _ ⟨rfl, rfl, rfl, trivial⟩
      | (have := hb trivial trivial trivial; omega)
      | (trace_state; fail)
  · have e1 : A.lt i ze = false := by rw [hA.lt]; exact decide_eq_false (by omega)
    have hkk : k1 = kr := by omega
    subst hkk
    clear hK htg he
    cbv
    repeat' first | with_reducible rfl | (simp only [e1]; cbv) | with_reducible refine And.intro ?_ ?_ | ((with_reducible intro hcc); first | (cases hcc; done) | skip) | ((with_reducible first | show goC _ _ _ _ _ _ _ _ | show goOps _ _ _ _ _ | show goD _ _ _ _ _ _); cbv) | ((with_reducible show okWr _ _ = _); rfl) | ((with_reducible refine hA.len es _ _ _ _ fun z hz hb => ?_); (have e6 := hze.trans hz.symm); subst e6; cbv) | ((with_reducible first | refine hA.fin_pl _ _ _ ?_ | refine hA.len _ _ _ _ _ fun z hz hb => ?_ | refine hA.off _ _ _ _ fun b hb => ?_ | refine hA.plus _ _ _ fun b hb => ?_); cbv) | ((with_reducible first | refine hA.sapp _ _ _ ⟨?_, fun sl hsl => ?_⟩); rotate_left; cbv) | (simp only [hA.lits]; cbv)
    all_goals try simp only [hA.ar, inR, n_cast, Int.ofNat_eq_natCast, Option.getD_some, Option.getD_none] at *
    all_goals first
      | omega
      | (have := hb trivial trivial trivial; omega)
      | (trace_state; fail))
set_option maxRecDepth 100000 in
set_option maxHeartbeats 1000000 in
theorem ok21 (L : List Row) (k : Int) (hk : 0 ≤ k) (hk2 : k + cnt L ≤ 140737488355328) : Plain Try.prog 21 [.e (.sl ((mkR k L).map fun r => rsr r.2)), .int k] (.int (k + cnt L)) := okOf mixed p21 fun A P hA hP => (by
  obtain ⟨es, hes⟩ : ∃ es : List (List E), es = (mkR k L).map fun r => rsr r.2 := ⟨_, rfl⟩
  have hl1 : es.length = L.length := by rw [hes, List.length_map, mkR_len]
  obtain ⟨kr, hkr⟩ : ∃ r, r = k + cnt L := ⟨_, rfl⟩
  obtain ⟨ze, hze⟩ : ∃ z : Int, z = es.length := ⟨_, rfl⟩
  rw [← hkr, ← hes]
  cbv
  repeat' first | with_reducible rfl | with_reducible refine And.intro ?_ ?_ | ((with_reducible intro hcc); first | (cases hcc; done) | skip) | ((with_reducible first | show goC _ _ _ _ _ _ _ _ | show goOps _ _ _ _ _ | show goD _ _ _ _ _ _); cbv) | ((with_reducible show okWr _ _ = _); rfl) | ((with_reducible first | refine hA.fin_pl _ _ _ ?_ | refine hA.len _ _ _ _ _ fun z hz hb => ?_ | refine hA.off _ _ _ _ fun b hb => ?_); cbv) | ((with_reducible first | refine hA.sapp _ _ _ ⟨?_, fun sl hsl => ?_⟩); rotate_left; cbv) | (simp only [hA.lits]; cbv)
  all_goals try simp only [hA.ar, inR, n_cast, Int.ofNat_eq_natCast, Option.getD_some, Option.getD_none] at *
  all_goals try omega
  refine hA.loopI (fun m s => ∃ (i k1 : Int), 0 ≤ i ∧ m + i = es.length ∧ k1 = k + cnt L - cnt (L.drop i.toNat) ∧ s = ⟨[(5, .int i), (0, .e (.sl es)), (1, .int k1)], []⟩) es.length _
      (Weak.keep (env' := [(5, .int 0), (0, .e (.sl es)), (1, .int k)]) ⟨rfl, rfl, rfl, trivial⟩) ⟨0, k, by omega, by omega, (by rw [show (0 : Int).toNat = 0 from rfl, List.drop_zero]; omega), rfl⟩ ?_
  rintro m s K' ⟨i, k1, h0, h1, hk1, rfl⟩ hK
  by_cases hin : (0 : Int) ≤ i ∧ i < es.length
  · have e1 : A.lt i ze = true := by rw [hA.lt]; exact decide_eq_true (by omega)
    obtain ⟨r, hr⟩ : ∃ r, L[i.toNat]? = some r := ⟨_, List.getElem?_eq_getElem (by omega)⟩
    have hdr := cnt_drop hr
    have hc0 := cnt_nonneg (L.drop (i.toNat + 1))
    have hcd : cnt (L.drop i.toNat) ≤ cnt L := cnt_le L i.toNat
    obtain ⟨x1, hx1⟩ : ∃ x, x = (mk2 k1 r.2).map vr := ⟨_, rfl⟩
    have hrow0 : es.getD i.toNat [] = [E.sl x1] := by
      rw [hes, List.getD, List.getElem?_map, mkR_get _ _ _ _ hr, hx1, hk1]
      rfl
    have hxl : x1.length = r.2.length := by rw [hx1, List.length_map, mk2_len]
    obtain ⟨k2, hk2'⟩ : ∃ k2 : Int, k2 = k1 + 2 * x1.length := ⟨_, rfl⟩
    have h82 := ok61 r.2 x1 k1 hx1 (by omega) (by omega)
    rw [← hk2'] at h82
    have e2 : A.lt k2 0 = false := by rw [hA.lt]; exact decide_eq_false (by omega)
    have hK2 : ∀ (env : List (Nat × D)), subL [(5, .int (i + 1)), (0, .e (.sl es)), (1, .int k2)] env → K' ⟨env, []⟩ := fun env q =>
      hK _ (m - 1) _ (by omega) (Weak.keep q) ⟨i + 1, k2, by omega, by omega, (by rw [show (i + 1).toNat = i.toNat + 1 by omega]; omega), rfl⟩
    clear hK hes hdr hc0 hcd hk1 hx1 hk2' hk2
    cbv
    repeat' first | with_reducible rfl | (simp only [e1, e2]; cbv) | with_reducible refine And.intro ?_ ?_ | ((with_reducible intro hcc); first | (cases hcc; done) | skip) | ((with_reducible first | show goC _ _ _ _ _ _ _ _ | show goOps _ _ _ _ _ | show goD _ _ _ _ _ _); cbv) | ((with_reducible show okWr _ _ = _); rfl) | ((with_reducible first | refine callK_f hA hP h82 ?_ ?_ ?_); exact rfl; exact rfl; cbv) | ((with_reducible refine hA.len es _ _ _ _ fun z hz hb => ?_); (have e6 := hze.trans hz.symm); subst e6; cbv) | ((with_reducible refine hA.row es i _ ⟨hin, fun row hrow => ?_⟩); rw [hrow0] at hrow; subst hrow; cbv) | ((with_reducible first | refine hA.fin_pl _ _ _ ?_ | refine hA.len _ _ _ _ _ fun z hz hb => ?_ | refine hA.off _ _ _ _ fun b hb => ?_); cbv) | ((with_reducible first | refine hA.sapp _ _ _ ⟨?_, fun sl hsl => ?_⟩); rotate_left; cbv) | (simp only [hA.lits]; cbv)
    all_goals try simp only [hA.ar, inR, n_cast, Int.ofNat_eq_natCast, Option.getD_some, Option.getD_none] at *
    all_goals first
      | omega
      | exact hK2 _ ⟨rfl, rfl, rfl, trivial⟩
      | (have := hb trivial trivial trivial; omega)
      | (trace_state; fail)
  · have e1 : A.lt i ze = false := by rw [hA.lt]; exact decide_eq_false (by omega)
    have hkk : k1 = kr := by
      rw [List.drop_eq_nil_of_le (by omega)] at hk1
      simp only [cnt] at hk1
      omega
    subst hkk
    clear hK hes hk1
    cbv
    repeat' first | with_reducible rfl | (simp only [e1]; cbv) | with_reducible refine And.intro ?_ ?_ | ((with_reducible intro hcc); first | (cases hcc; done) | skip) | ((with_reducible first | show goC _ _ _ _ _ _ _ _ | show goOps _ _ _ _ _ | show goD _ _ _ _ _ _); cbv) | ((with_reducible show okWr _ _ = _); rfl) | ((with_reducible refine hA.len es _ _ _ _ fun z hz hb => ?_); (have e6 := hze.trans hz.symm); subst e6; cbv) | ((with_reducible first | refine hA.fin_pl _ _ _ ?_ | refine hA.len _ _ _ _ _ fun z hz hb => ?_ | refine hA.off _ _ _ _ fun b hb => ?_); cbv) | ((with_reducible first | refine hA.sapp _ _ _ ⟨?_, fun sl hsl => ?_⟩); rotate_left; cbv) | (simp only [hA.lits]; cbv)
    all_goals try simp only [hA.ar, inR, n_cast, Int.ofNat_eq_natCast, Option.getD_some, Option.getD_none] at *
    all_goals first
      | omega
      | (have := hb trivial trivial trivial; omega)
      | (trace_state; fail))
end Go.Proofs.Ytfplalbognalkaa.Ab.NS
/- The specification's sort, walked. -/
namespace Go.Proofs.Ytfplalbognalkaa.Ab.NS
open Go
set_option maxRecDepth 100000 in
theorem ok52 (l : Ab.Row) (es : List (List E)) (he : es = l.map vr) (hlen : es.length ≤ 1048576) : Plain Try.prog 52 [.e (.sl es)] (.e (.sl ((clR l).map vr))) := okOf mixed p52 fun A P hA hP => (by
  have hl1 : es.length = l.length := by rw [he]; simp
  obtain ⟨ts, hts⟩ : ∃ ts, ts = (clR l).map vr := ⟨_, rfl⟩
  have hl2 : ts.length = es.length := by rw [hts, hl1, clR]; simp
  rw [← hts]
  cbv
  repeat' first | with_reducible rfl | with_reducible refine And.intro ?_ ?_ | ((with_reducible intro hcc); first | (cases hcc; done) | skip) | ((with_reducible first | show goC _ _ _ _ _ _ _ _ | show goOps _ _ _ _ _ | show goD _ _ _ _ _ _); cbv) | ((with_reducible show okWr _ _ = _); rfl) | ((with_reducible first | refine hA.fin_pl _ _ _ ?_ | refine hA.len _ _ _ _ _ fun z hz hb => ?_ | refine hA.off _ _ _ _ fun b hb => ?_ | refine hA.alt _ _ (Or.inl ?_)); cbv) | ((with_reducible first | refine hA.app _ _ _ _ _ ⟨?_, fun zs m hzs hm => ?_⟩ | refine hA.app0 _ _ _ ⟨?_, fun m hm => ?_⟩ | refine hA.appv _ _ _ _ _ _ ⟨?_, fun bb m ds hbb hm hds => ?_⟩ | refine hA.vcut _ _ _ _ ⟨?_, fun cs hcs => ?_⟩ | refine hA.appw _ _ _ _ _ _ _ ⟨?_, fun bb m ds hbb hm hds => ?_⟩ | refine hA.sapp _ _ _ ⟨?_, fun sl hsl => ?_⟩); rotate_left; cbv) | (simp only [hA.lits]; cbv)
  all_goals try simp only [hA.ar, inR, n_cast, Int.ofNat_eq_natCast, Option.getD_some, Option.getD_none] at *
  refine hA.loopI (fun n s => ∃ (i : Int) (xs : List (List E)), 0 ≤ i ∧ n + i = es.length ∧ xs = ts.take i.toNat ∧
      s = ⟨[(4, .int i), (3, .own 0 xs), (0, .e (.sl es))], [.front xs.length 2]⟩) es.length _
    ((Weak.zown 3 2 rfl).trans (Weak.keep (env' := [(4, .int 0), (3, .own 0 []), (0, .e (.sl es))]) ⟨rfl, rfl, rfl, trivial⟩))
    ⟨0, [], by omega, by omega, rfl, rfl⟩ ?_
  rintro n s K ⟨i, xs, h0, h1, h2, rfl⟩ hK
  obtain ⟨k, hk⟩ : ∃ k, k = xs.length := ⟨_, rfl⟩
  have hxl : xs.length = i.toNat := by rw [h2, List.length_take]; omega
  rw [← hk]
  by_cases hin : (0 : Int) ≤ i ∧ i < es.length
  · obtain ⟨⟨b1, v1⟩, e1, q1⟩ := row_at he hin
    obtain ⟨⟨b2, v2⟩, hcl⟩ : ∃ q, q = clean (b1, v1) := ⟨_, rfl⟩
    have h95 : Plain Try.prog 106 [dVal b1 v1] (dVal b2 v2) := by have := ok106 b1 v1; rw [← hcl] at this; exact this
    have hrow : ts.take (i + 1).toNat = xs ++ [[E.bool b2, E.int v2]] := by
      rw [show (i + 1).toNat = i.toNat + 1 by omega, List.take_add_one, ← h2, hts, clR, List.map_map, List.getElem?_map, q1]
      simp [← hcl]
    clear hcl he hts
    cbv
    repeat' first | with_reducible rfl | with_reducible refine And.intro ?_ ?_ | ((with_reducible intro hcc); first | (cases hcc; done) | skip) | ((with_reducible first | show goC _ _ _ _ _ _ _ _ | show goOps _ _ _ _ _ | show goD _ _ _ _ _ _); cbv) | ((with_reducible show okWr _ _ = _); rfl) | ((with_reducible first | refine callK_f hA hP h95 ?_ ?_ ?_); exact rfl; exact rfl; cbv) | ((with_reducible refine hA.row es _ _ ⟨hin, fun row hrow => ?_⟩); rw [e1] at hrow; subst hrow; cbv) | ((with_reducible first | refine hA.fin_pl _ _ _ ?_ | refine hA.len _ _ _ _ _ fun z hz hb => ?_ | refine hA.off _ _ _ _ fun b hb => ?_ | refine hA.alt _ _ (Or.inl ?_)); cbv) | ((with_reducible first | refine hA.app _ _ _ _ _ ⟨?_, fun zs m hzs hm => ?_⟩ | refine hA.app0 _ _ _ ⟨?_, fun m hm => ?_⟩ | refine hA.appv _ _ _ _ _ _ ⟨?_, fun bb m ds hbb hm hds => ?_⟩ | refine hA.vcut _ _ _ _ ⟨?_, fun cs hcs => ?_⟩ | refine hA.appw _ _ _ _ _ _ _ ⟨?_, fun bb m ds hbb hm hds => ?_⟩ | refine hA.sapp _ _ _ ⟨?_, fun sl hsl => ?_⟩); rotate_left; cbv) | (simp only [hA.lits]; cbv)
    all_goals try simp only [hA.ar, inR, n_cast, Int.ofNat_eq_natCast, Option.getD_some, Option.getD_none] at *
    all_goals first
      | omega
      | (rw [hk]; done)
      | exact ⟨rfl, trivial⟩
      | (simp only [List.length_cons, List.length_nil]; omega)
      | (have hz2 : zs = ts.take (i + 1).toNat := by rw [hzs, hrow]
         refine hK _ (n - 1) _ (by omega) (Weak.ren (l0 := []) [0] (fun t => [(4, .int (i + 1)), (3, .own (t 0) zs), (0, .e (.sl es))]) (fun _ => [.front zs.length 2]) rfl
               ⟨.inl rfl, .inl rfl, .inl rfl, trivial⟩ ⟨by rw [← hm]; rfl, trivial⟩ ⟨fun t => rfl, rfl, fun t => rfl, by intro o ho; rw [List.mem_singleton] at ho; subst ho; rfl⟩)
             ⟨i + 1, zs, by omega, by omega, hz2, rfl⟩)
      | (clear hK; simp at *; omega)
      | (trace_state; fail)
  · have hxe : xs = ts := by rw [h2]; exact List.take_of_length_le (by omega)
    clear hK h2
    cbv
    repeat' first | with_reducible rfl | with_reducible refine And.intro ?_ ?_ | ((with_reducible intro hcc); first | (cases hcc; done) | skip) | ((with_reducible first | show goC _ _ _ _ _ _ _ _ | show goOps _ _ _ _ _ | show goD _ _ _ _ _ _); cbv) | ((with_reducible show okWr _ _ = _); rfl) | (exfalso; simp only [hA.lt, hA.sub, decide_eq_true_eq, decide_eq_false_iff_not, n_cast] at *; omega) | ((with_reducible first | refine hA.fin_pl _ _ _ ?_ | refine hA.len _ _ _ _ _ fun z hz hb => ?_ | refine hA.off _ _ _ _ fun b hb => ?_ | refine hA.alt _ _ (Or.inl ?_)); cbv) | ((with_reducible first | refine hA.app _ _ _ _ _ ⟨?_, fun zs m hzs hm => ?_⟩ | refine hA.app0 _ _ _ ⟨?_, fun m hm => ?_⟩ | refine hA.appv _ _ _ _ _ _ ⟨?_, fun bb m ds hbb hm hds => ?_⟩ | refine hA.vcut _ _ _ _ ⟨?_, fun cs hcs => ?_⟩ | refine hA.appw _ _ _ _ _ _ _ ⟨?_, fun bb m ds hbb hm hds => ?_⟩ | refine hA.sapp _ _ _ ⟨?_, fun sl hsl => ?_⟩); rotate_left; cbv) | (simp only [hA.lits]; cbv)
    all_goals try simp only [hA.ar, inR, n_cast, Int.ofNat_eq_natCast, Option.getD_some, Option.getD_none] at *
    all_goals first
      | (rw [hxe])
      | omega
      | (trace_state; fail))
theorem allLen_rsr (l : List Ab.Row) : allLen 1 (l.map rsr) := allLen_iff.2 fun e he => by obtain ⟨p, _, rfl⟩ := List.mem_map.1 he; rfl
set_option maxRecDepth 100000 in
set_option maxHeartbeats 4000000 in
theorem ok17 (l : List Ab.Row) (es : List (List E)) (he : es = l.map rsr) (hlen : es.length ≤ 1048576) (hr : ∀ r ∈ l, r.length ≤ 1048576) : Plain Try.prog 17 [.e (.sl es)] (.e (.sl ((sortW l).map rsr))) := by
  obtain ⟨n, hn⟩ : ∃ n, n = l.length := ⟨_, rfl⟩
  induction n using Nat.strongRecOn generalizing l es with
  | _ n ih =>
  have hl1 : es.length = l.length := by rw [he]; simp
  obtain ⟨ts, hts⟩ : ∃ ts, ts = (sortW l).map rsr := ⟨_, rfl⟩
  rw [← hts]
  refine okOf mixed p17 fun A P hA hP => (by
    obtain ⟨ze, hze⟩ : ∃ z : Int, z = es.length := ⟨_, rfl⟩
    rcases Nat.lt_or_ge l.length 1 with c0 | c0
    · have hl0 : l = [] := List.length_eq_zero_iff.1 (by omega)
      have ht0 : ts = [] := by rw [hts, hl0]; simp [sortW, Ab.srt]
      subst ht0
      have e1 : A.eq ze 0 = true := by rw [hA.eq]; exact decide_eq_true (by omega)
      clear ih hts he hr
      cbv
      repeat' first | with_reducible rfl | (simp only [e1]; cbv) | with_reducible refine And.intro ?_ ?_ | ((with_reducible intro hcc); first | (cases hcc; done) | skip) | ((with_reducible first | show goC _ _ _ _ _ _ _ _ | show goOps _ _ _ _ _ | show goD _ _ _ _ _ _); cbv) | ((with_reducible show okWr _ _ = _); rfl) | ((with_reducible refine hA.len es _ _ _ _ fun z hz hb => ?_); (have e6 := hze.trans hz.symm); subst e6; cbv) | ((with_reducible first | refine hA.fin_pl _ _ _ ?_ | refine hA.len _ _ _ _ _ fun z hz hb => ?_ | refine hA.off _ _ _ _ fun b hb => ?_ | refine hA.alt _ _ (Or.inl ?_) | refine hA.gb0 true _ ?_ | refine hA.gb0 false _ ?_ | refine hA.gb _ _ fun vb hvb => ?_); cbv) | ((with_reducible first | refine hA.app _ _ _ _ _ ⟨?_, fun zs m hzs hm => ?_⟩ | refine hA.app0 _ _ _ ⟨?_, fun m hm => ?_⟩ | refine hA.slc _ _ _ _ _ ⟨?_, fun zs hzs => ?_⟩ | refine hA.appv _ _ _ _ _ _ ⟨?_, fun bb m ds hbb hm hds => ?_⟩ | refine hA.vsl _ _ _ _ ⟨?_, fun m hm => ?_⟩ | refine hA.vcut _ _ _ _ ⟨?_, fun cs hcs => ?_⟩ | refine hA.appw _ _ _ _ _ _ _ ⟨?_, fun bb m ds hbb hm hds => ?_⟩); rotate_left; cbv) | (simp only [hA.lits]; cbv)
      all_goals try simp only [hA.ar, inR, n_cast, Int.ofNat_eq_natCast, Option.getD_some, Option.getD_none] at *
      all_goals first
        | omega
        | (trace_state; fail)
    rcases Nat.lt_or_ge 1 l.length with c1 | c1
    case inr =>
      obtain ⟨r, rfl⟩ : ∃ r, l = [r] := List.length_eq_one_iff.1 (by omega)
      have e1 : A.eq ze 0 = false := by rw [hA.eq]; exact decide_eq_false (by omega)
      have e2 : A.eq ze 1 = true := by rw [hA.eq]; exact decide_eq_true (by omega)
      have h78 := ok52 r (r.map vr) rfl (by have := hr r (by simp); rw [List.length_map]; omega)
      obtain ⟨x1, hx1⟩ : ∃ x, x = r.map vr := ⟨_, rfl⟩
      obtain ⟨x2, hx2⟩ : ∃ x, x = (clR r).map vr := ⟨_, rfl⟩
      have ht0 : ts = [[E.sl x2]] := by rw [hts, sortW_one, hx2]; rfl
      rw [← hx1, ← hx2] at h78
      have hrow0 : es.getD (0 : Int).toNat [] = [E.sl x1] := by rw [he, hx1]; rfl
      have hin : (0 : Int) ≤ 0 ∧ (0 : Int) < es.length := by omega
      clear ih hts he hr hx1 hx2
      subst ht0
      cbv
      repeat' first | with_reducible rfl | (simp only [e1, e2]; cbv) | with_reducible refine And.intro ?_ ?_ | ((with_reducible intro hcc); first | (cases hcc; done) | skip) | ((with_reducible first | show goC _ _ _ _ _ _ _ _ | show goOps _ _ _ _ _ | show goD _ _ _ _ _ _); cbv) | ((with_reducible show okWr _ _ = _); rfl) | ((with_reducible first | refine callK_f hA hP h78 ?_ ?_ ?_); exact rfl; exact rfl; cbv) | ((with_reducible refine hA.len es _ _ _ _ fun z hz hb => ?_); (have e6 := hze.trans hz.symm); subst e6; cbv) | ((with_reducible refine hA.row es 0 _ ⟨hin, fun row hrow => ?_⟩); rw [hrow0] at hrow; subst hrow; cbv) | ((with_reducible refine hA.fin_bs (es := [[E.sl x2]]) ?_ ?_ ?_)) | ((with_reducible first | refine hA.fin_pl _ _ _ ?_ | refine hA.len _ _ _ _ _ fun z hz hb => ?_ | refine hA.off _ _ _ _ fun b hb => ?_ | refine hA.alt _ _ (Or.inl ?_) | refine hA.gb0 true _ ?_ | refine hA.gb0 false _ ?_ | refine hA.gb _ _ fun vb hvb => ?_); cbv) | ((with_reducible first | refine hA.app _ _ _ _ _ ⟨?_, fun zs m hzs hm => ?_⟩ | refine hA.app0 _ _ _ ⟨?_, fun m hm => ?_⟩ | refine hA.slc _ _ _ _ _ ⟨?_, fun zs hzs => ?_⟩ | refine hA.appv _ _ _ _ _ _ ⟨?_, fun bb m ds hbb hm hds => ?_⟩ | refine hA.vsl _ _ _ _ ⟨?_, fun m hm => ?_⟩ | refine hA.vcut _ _ _ _ ⟨?_, fun cs hcs => ?_⟩ | refine hA.appw _ _ _ _ _ _ _ ⟨?_, fun bb m ds hbb hm hds => ?_⟩); rotate_left; cbv) | (simp only [hA.lits]; cbv)
      all_goals try simp only [hA.ar, inR, n_cast, Int.ofNat_eq_natCast, Option.getD_some, Option.getD_none] at *
      all_goals first
        | omega
        | rfl
        | (intro e h; rw [List.mem_singleton] at h; subst h; rfl)
        | (trace_state; fail)
    have hal : ∀ e ∈ es, e.length = 1 := by
      rw [he]
      intro e h
      obtain ⟨p, _, rfl⟩ := List.mem_map.1 h
      rfl
    have e1 : A.eq ze 0 = false := by rw [hA.eq]; exact decide_eq_false (by omega)
    have e2 : A.eq ze 1 = false := by rw [hA.eq]; exact decide_eq_false (by omega)
    obtain ⟨h, hh⟩ : ∃ h : Int, h = A.div ze 2 := ⟨_, rfl⟩
    have hh' : h = ze / 2 := by rw [hh, hA.div]
    obtain ⟨k, hk⟩ : ∃ k, k = h.toNat := ⟨_, rfl⟩
    obtain ⟨a0, ha0⟩ : ∃ a, a = sortW (l.take k) := ⟨_, rfl⟩
    obtain ⟨b0, hb0⟩ : ∃ b, b = sortW (l.drop k) := ⟨_, rfl⟩
    have hab : List.merge a0 b0 Ab.leR = sortW l := by rw [ha0, hb0]; exact sortW_halves k l
    obtain ⟨ea, hea⟩ : ∃ a, a = a0.map rsr := ⟨_, rfl⟩
    obtain ⟨eb, heb⟩ : ∃ b, b = b0.map rsr := ⟨_, rfl⟩
    obtain ⟨xa, hxa⟩ : ∃ a, a = es.take k := ⟨_, rfl⟩
    obtain ⟨xb, hxb⟩ : ∃ b, b = es.drop k := ⟨_, rfl⟩
    have h47a : Plain Try.prog 17 [.e (.sl xa)] (.e (.sl ea)) := by
      rw [hea, ha0]
      exact ih (l.take k).length (by rw [List.length_take]; omega) (l.take k) xa (by rw [hxa, he, List.map_take]) (by rw [hxa, List.length_take]; omega) (fun r h => hr r (List.mem_of_mem_take h)) rfl
    have h47b : Plain Try.prog 17 [.e (.sl xb)] (.e (.sl eb)) := by
      rw [heb, hb0]
      exact ih (l.drop k).length (by rw [List.length_drop]; omega) (l.drop k) xb (by rw [hxb, he, List.map_drop]) (by rw [hxb, List.length_drop]; omega) (fun r h => hr r (List.mem_of_mem_drop h)) rfl
    clear ih he hr
    cbv
    repeat' first | with_reducible rfl | (simp only [e1, e2, ← hh]; cbv) | with_reducible refine And.intro ?_ ?_ | ((with_reducible intro hcc); first | (cases hcc; done) | skip) | ((with_reducible first | show goC _ _ _ _ _ _ _ _ | show goOps _ _ _ _ _ | show goD _ _ _ _ _ _); cbv) | ((with_reducible show okWr _ _ = _); rfl) | ((with_reducible first | refine callK_f hA hP h47a ?_ ?_ ?_ | refine callK_f hA hP h47b ?_ ?_ ?_); exact rfl; exact rfl; cbv) | ((with_reducible refine hA.len es _ _ _ _ fun z hz hb => ?_); (have e6 := hze.trans hz.symm); subst e6; cbv) | ((with_reducible refine hA.slc _ _ _ _ _ ⟨?_, fun zs hzs => ?_⟩); rotate_left; (have e8 : zs = xa := (by rw [hzs, hxa, hk]; simp)); subst e8; cbv) | ((with_reducible refine hA.slc _ _ _ _ _ ⟨?_, fun zs hzs => ?_⟩); rotate_left; (have e8 : zs = xb := (by rw [hzs, hxb, hk]; simp)); subst e8; cbv) | ((with_reducible first | refine hA.fin_pl _ _ _ ?_ | refine hA.len _ _ _ _ _ fun z hz hb => ?_ | refine hA.off _ _ _ _ fun b hb => ?_ | refine hA.alt _ _ (Or.inl ?_) | refine hA.gb0 true _ ?_ | refine hA.gb0 false _ ?_ | refine hA.gb _ _ fun vb hvb => ?_); cbv) | ((with_reducible first | refine hA.app _ _ _ _ _ ⟨?_, fun zs m hzs hm => ?_⟩ | refine hA.app0 _ _ _ ⟨?_, fun m hm => ?_⟩ | refine hA.slc _ _ _ _ _ ⟨?_, fun zs hzs => ?_⟩ | refine hA.appv _ _ _ _ _ _ ⟨?_, fun bb m ds hbb hm hds => ?_⟩ | refine hA.vsl _ _ _ _ ⟨?_, fun m hm => ?_⟩ | refine hA.vcut _ _ _ _ ⟨?_, fun cs hcs => ?_⟩ | refine hA.appw _ _ _ _ _ _ _ ⟨?_, fun bb m ds hbb hm hds => ?_⟩); rotate_left; cbv) | (simp only [hA.lits]; cbv)
    all_goals try simp only [hA.ar, inR, n_cast, Int.ofNat_eq_natCast, Option.getD_some, Option.getD_none] at *
    all_goals try first
      | omega
      | exact allLen_iff.2 hal
      | exact ⟨allLen_iff.2 hal, by simp only [Option.getD_some, Option.getD_none]; omega⟩
    refine hA.loopI (fun m s => ∃ (Dn A' B' : List Ab.Row) (t x y : List (List E)), m = A'.length + B'.length ∧ Dn ++ List.merge A' B' Ab.leR = sortW l ∧ t = Dn.map rsr ∧ x = A'.map rsr ∧ y = B'.map rsr ∧
        s = ⟨[(6, .own 0 t), (4, .e (.sl x)), (5, .e (.sl y))], [.front t.length 1]⟩) (a0.length + b0.length) _
      ((Weak.zown 6 1 rfl).trans (Weak.keep (env' := [(6, .own 0 []), (4, .e (.sl ea)), (5, .e (.sl eb))]) ⟨rfl, rfl, rfl, trivial⟩))
      ⟨[], a0, b0, [], ea, eb, rfl, by simpa using hab, rfl, hea, heb, rfl⟩ ?_
    rintro m s K ⟨Dn, A', B', t, x, y, hm0, hD, ht, hx, hy, rfl⟩ hK
    clear hab ha0 hb0 hea heb hxa hxb h47a h47b e1 e2 hh hh' hk
    obtain ⟨q, hq⟩ : ∃ q, q = t.length := ⟨_, rfl⟩
    obtain ⟨zx, hzx⟩ : ∃ z : Int, z = x.length := ⟨_, rfl⟩
    obtain ⟨zy, hzy⟩ : ∃ z : Int, z = y.length := ⟨_, rfl⟩
    have hxl : x.length = A'.length := by rw [hx, List.length_map]
    have hyl : y.length = B'.length := by rw [hy, List.length_map]
    have hsl := sortW_len l
    rw [← hD, List.length_append, List.length_merge] at hsl
    have htl : t.length = Dn.length := by rw [ht, List.length_map]
    have hax : allLen 1 x := by rw [hx]; exact allLen_rsr _
    have hay : allLen 1 y := by rw [hy]; exact allLen_rsr _
    rw [← hq]
    -- a round goes on with one row more
    have go : ∀ (r : Ab.Row) (x1 : List (List E)) (A2 B2 : List Ab.Row) (x2 y2 : List (List E)), x1 = r.map vr → A2.length + B2.length < m → List.merge A' B' Ab.leR = r :: List.merge A2 B2 Ab.leR → x2 = A2.map rsr → y2 = B2.map rsr →
        ∀ (zs : List (List E)) (m : Nat) (env : List (Nat × D)) (hp : List O), zs = t ++ [[E.sl x1]] → m = zs.length → hpF hp 0 = .front m 1 → subW [(6, .own 0 zs), (4, .e (.sl x2)), (5, .e (.sl y2))] env → K ⟨env, hp⟩ :=
      fun r x1 A2 B2 x2 y2 g1 g2 g3 g4 g5 zs m1 env hp g6 g7 g8 g9 =>
        hK _ (A2.length + B2.length) _ g2 (Weak.ren (l0 := []) [0] (fun t => [(6, .own (t 0) zs), (4, .e (.sl x2)), (5, .e (.sl y2))]) (fun _ => [.front zs.length 1]) rfl g9 ⟨by rw [g8, g7], trivial⟩ ⟨fun t => rfl, rfl, fun t => rfl, by intro o ho; rw [List.mem_singleton] at ho; subst ho; rfl⟩)
          ⟨Dn ++ [r], A2, B2, zs, x2, y2, rfl, by rw [← hD, g3]; simp, by rw [g6, ht, g1]; simp, g4, g5, rfl⟩
    cases A' with
    | nil =>
      have hzx0 : zx = 0 := by rw [hzx, hxl]; rfl
      have e1 : A.lt 0 zx = false := by rw [hA.lt]; exact decide_eq_false (by omega)
      cases B' with
      | nil =>
        have hzy0 : zy = 0 := by rw [hzy, hyl]; rfl
        have e2 : A.lt 0 zy = false := by rw [hA.lt]; exact decide_eq_false (by omega)
        have htt : t = ts := by rw [ht, hts, ← hD]; simp
        subst htt
        clear hK go hx hy
        cbv
        repeat' first | with_reducible rfl | (simp only [e1, e2]; cbv) | with_reducible refine And.intro ?_ ?_ | ((with_reducible intro hcc); first | (cases hcc; done) | skip) | ((with_reducible first | show goC _ _ _ _ _ _ _ _ | show goOps _ _ _ _ _ | show goD _ _ _ _ _ _); cbv) | ((with_reducible show okWr _ _ = _); rfl) | ((with_reducible refine hA.len x _ _ _ _ fun z hz hb => ?_); (have e6 := hzx.trans hz.symm); subst e6; cbv) | ((with_reducible refine hA.len y _ _ _ _ fun z hz hb => ?_); (have e6 := hzy.trans hz.symm); subst e6; cbv) | ((with_reducible first | refine hA.fin_pl _ _ _ ?_ | refine hA.len _ _ _ _ _ fun z hz hb => ?_ | refine hA.off _ _ _ _ fun b hb => ?_ | refine hA.alt _ _ (Or.inl ?_) | refine hA.gb0 true _ ?_ | refine hA.gb0 false _ ?_ | refine hA.gb _ _ fun vb hvb => ?_); cbv) | ((with_reducible first | refine hA.app _ _ _ _ _ ⟨?_, fun zs m hzs hm => ?_⟩ | refine hA.app0 _ _ _ ⟨?_, fun m hm => ?_⟩ | refine hA.slc _ _ _ _ _ ⟨?_, fun zs hzs => ?_⟩ | refine hA.appv _ _ _ _ _ _ ⟨?_, fun bb m ds hbb hm hds => ?_⟩ | refine hA.vsl _ _ _ _ ⟨?_, fun m hm => ?_⟩ | refine hA.vcut _ _ _ _ ⟨?_, fun cs hcs => ?_⟩ | refine hA.appw _ _ _ _ _ _ _ ⟨?_, fun bb m ds hbb hm hds => ?_⟩); rotate_left; cbv) | (simp only [hA.lits]; cbv)
        all_goals try simp only [hA.ar, inR, n_cast, Int.ofNat_eq_natCast, Option.getD_some, Option.getD_none] at *
        all_goals first
          | omega
          | (trace_state; fail)
      | cons r B2 =>
        obtain ⟨x1, hx1⟩ : ∃ x, x = r.map vr := ⟨_, rfl⟩
        obtain ⟨y2, hy2⟩ : ∃ y, y = B2.map rsr := ⟨_, rfl⟩
        have e2 : A.lt 0 zy = true := by rw [hA.lt]; exact decide_eq_true (by rw [hzy, hyl, List.length_cons]; omega)
        have e3 : A.eq zy 0 = false := by rw [hA.eq]; exact decide_eq_false (by rw [hzy, hyl, List.length_cons]; omega)
        have hrow0 : y.getD (0 : Int).toNat [] = [E.sl x1] := by rw [hy, hx1]; rfl
        have hin : (0 : Int) ≤ 0 ∧ (0 : Int) < y.length := ⟨by omega, by rw [hyl, List.length_cons]; omega⟩
        have hdrop : (y.take (y.length : Int).toNat).drop (1 : Int).toNat = y2 := by rw [hy2, hy, List.take_of_length_le (by simp)]; rfl
        have hle : (1 : Int) ≤ y.length := by rw [hyl, List.length_cons]; omega
        have go := go r x1 [] B2 x y2 hx1 (by rw [hm0]; simp) (by simp) hx hy2
        clear hK hx hy hx1 hy2
        cbv
        repeat' first | with_reducible rfl | (simp only [e1, e2, e3]; cbv) | with_reducible refine And.intro ?_ ?_ | ((with_reducible intro hcc); first | (cases hcc; done) | skip) | ((with_reducible first | show goC _ _ _ _ _ _ _ _ | show goOps _ _ _ _ _ | show goD _ _ _ _ _ _); cbv) | ((with_reducible show okWr _ _ = _); rfl) | ((with_reducible refine hA.len x _ _ _ _ fun z hz hb => ?_); (have e6 := hzx.trans hz.symm); subst e6; cbv) | ((with_reducible refine hA.len y _ _ _ _ fun z hz hb => ?_); (have e6 := hzy.trans hz.symm); subst e6; cbv) | ((with_reducible refine hA.row y 0 _ ⟨hin, fun row hrow => ?_⟩); rw [hrow0] at hrow; subst hrow; cbv) | ((with_reducible refine hA.row0 x _ _ fun p row => ?_); cbv) | ((with_reducible refine hA.row0 y _ _ fun p row => ?_); cbv) | ((with_reducible show A.call _ _ _ _ false _ _ _ _); refine callK_no hA (.int 0) ?_; cbv) | ((with_reducible refine hA.slc y _ _ _ _ ⟨?_, fun zs hzs => ?_⟩); rotate_left; (have e8 : zs = y2 := hzs.trans hdrop); subst e8; cbv) | ((with_reducible first | refine hA.fin_pl _ _ _ ?_ | refine hA.len _ _ _ _ _ fun z hz hb => ?_ | refine hA.off _ _ _ _ fun b hb => ?_ | refine hA.alt _ _ (Or.inl ?_) | refine hA.gb0 true _ ?_ | refine hA.gb0 false _ ?_ | refine hA.gb _ _ fun vb hvb => ?_); cbv) | ((with_reducible first | refine hA.app _ _ _ _ _ ⟨?_, fun zs m hzs hm => ?_⟩ | refine hA.app0 _ _ _ ⟨?_, fun m hm => ?_⟩ | refine hA.slc _ _ _ _ _ ⟨?_, fun zs hzs => ?_⟩ | refine hA.appv _ _ _ _ _ _ ⟨?_, fun bb m ds hbb hm hds => ?_⟩ | refine hA.vsl _ _ _ _ ⟨?_, fun m hm => ?_⟩ | refine hA.vcut _ _ _ _ ⟨?_, fun cs hcs => ?_⟩ | refine hA.appw _ _ _ _ _ _ _ ⟨?_, fun bb m ds hbb hm hds => ?_⟩); rotate_left; cbv) | (simp only [hA.lits]; cbv)
        all_goals try simp only [hA.ar, inR, n_cast, Int.ofNat_eq_natCast, Option.getD_some, Option.getD_none] at *
        all_goals first
          | omega
          | exact go _ _ _ _ (by assumption) (by assumption) rfl ⟨.inl rfl, .inl rfl, .inl rfl, trivial⟩
          | exact ⟨hay, by decide, hle, Int.le_refl _⟩
          | (rw [hq]; done)
          | exact ⟨rfl, trivial⟩
          | (simp only [List.length_cons, List.length_nil]; omega)
          | (trace_state; fail)
    | cons r A2 =>
      obtain ⟨x1, hx1⟩ : ∃ x, x = r.map vr := ⟨_, rfl⟩
      obtain ⟨x2, hx2⟩ : ∃ y, y = A2.map rsr := ⟨_, rfl⟩
      have e1 : A.lt 0 zx = true := by rw [hA.lt]; exact decide_eq_true (by rw [hzx, hxl, List.length_cons]; omega)
      have hrow0 : x.getD (0 : Int).toNat [] = [E.sl x1] := by rw [hx, hx1]; rfl
      have hin : (0 : Int) ≤ 0 ∧ (0 : Int) < x.length := ⟨by omega, by rw [hxl, List.length_cons]; omega⟩
      have hdrop : (x.take (x.length : Int).toNat).drop (1 : Int).toNat = x2 := by rw [hx2, hx, List.take_of_length_le (by simp)]; rfl
      have hle : (1 : Int) ≤ x.length := by rw [hxl, List.length_cons]; omega
      cases B' with
      | nil =>
        have e3 : A.eq zy 0 = true := by rw [hA.eq]; exact decide_eq_true (by rw [hzy, hyl]; rfl)
        have go := go r x1 A2 [] x2 y hx1 (by rw [hm0]; simp) (by simp) hx2 hy
        clear hK hx hy hx1 hx2
        cbv
        repeat' first | with_reducible rfl | (simp only [e1, e3]; cbv) | with_reducible refine And.intro ?_ ?_ | ((with_reducible intro hcc); first | (cases hcc; done) | skip) | ((with_reducible first | show goC _ _ _ _ _ _ _ _ | show goOps _ _ _ _ _ | show goD _ _ _ _ _ _); cbv) | ((with_reducible show okWr _ _ = _); rfl) | ((with_reducible refine hA.len x _ _ _ _ fun z hz hb => ?_); (have e6 := hzx.trans hz.symm); subst e6; cbv) | ((with_reducible refine hA.len y _ _ _ _ fun z hz hb => ?_); (have e6 := hzy.trans hz.symm); subst e6; cbv) | ((with_reducible refine hA.row x 0 _ ⟨hin, fun row hrow => ?_⟩); rw [hrow0] at hrow; subst hrow; cbv) | ((with_reducible refine hA.row0 x _ _ fun p row => ?_); cbv) | ((with_reducible refine hA.row0 y _ _ fun p row => ?_); cbv) | ((with_reducible show A.call _ _ _ _ false _ _ _ _); refine callK_no hA (.int 0) ?_; cbv) | ((with_reducible refine hA.slc x _ _ _ _ ⟨?_, fun zs hzs => ?_⟩); rotate_left; (have e8 : zs = x2 := hzs.trans hdrop); subst e8; cbv) | ((with_reducible first | refine hA.fin_pl _ _ _ ?_ | refine hA.len _ _ _ _ _ fun z hz hb => ?_ | refine hA.off _ _ _ _ fun b hb => ?_ | refine hA.alt _ _ (Or.inl ?_) | refine hA.gb0 true _ ?_ | refine hA.gb0 false _ ?_ | refine hA.gb _ _ fun vb hvb => ?_); cbv) | ((with_reducible first | refine hA.app _ _ _ _ _ ⟨?_, fun zs m hzs hm => ?_⟩ | refine hA.app0 _ _ _ ⟨?_, fun m hm => ?_⟩ | refine hA.slc _ _ _ _ _ ⟨?_, fun zs hzs => ?_⟩ | refine hA.appv _ _ _ _ _ _ ⟨?_, fun bb m ds hbb hm hds => ?_⟩ | refine hA.vsl _ _ _ _ ⟨?_, fun m hm => ?_⟩ | refine hA.vcut _ _ _ _ ⟨?_, fun cs hcs => ?_⟩ | refine hA.appw _ _ _ _ _ _ _ ⟨?_, fun bb m ds hbb hm hds => ?_⟩); rotate_left; cbv) | (simp only [hA.lits]; cbv)
        all_goals try simp only [hA.ar, inR, n_cast, Int.ofNat_eq_natCast, Option.getD_some, Option.getD_none] at *
        all_goals first
          | omega
          | exact go _ _ _ _ (by assumption) (by assumption) rfl ⟨.inl rfl, .inl rfl, .inl rfl, trivial⟩
          | exact ⟨hax, by decide, hle, Int.le_refl _⟩
          | (rw [hq]; done)
          | exact ⟨rfl, trivial⟩
          | (simp only [List.length_cons, List.length_nil]; omega)
          | (trace_state; fail)
      | cons r' B2 =>
        obtain ⟨y1, hy1⟩ : ∃ x, x = r'.map vr := ⟨_, rfl⟩
        obtain ⟨y2, hy2⟩ : ∃ y, y = B2.map rsr := ⟨_, rfl⟩
        have e3 : A.eq zy 0 = false := by rw [hA.eq]; exact decide_eq_false (by rw [hzy, hyl, List.length_cons]; omega)
        have hrow0y : y.getD (0 : Int).toNat [] = [E.sl y1] := by rw [hy, hy1]; rfl
        have hiny : (0 : Int) ≤ 0 ∧ (0 : Int) < y.length := ⟨by omega, by rw [hyl, List.length_cons]; omega⟩
        have hdropy : (y.take (y.length : Int).toNat).drop (1 : Int).toNat = y2 := by rw [hy2, hy, List.take_of_length_le (by simp)]; rfl
        have hley : (1 : Int) ≤ y.length := by rw [hyl, List.length_cons]; omega
        obtain ⟨c, hc⟩ : ∃ c, c = Ab.rcmp r r' := ⟨_, rfl⟩
        have h26 : Plain Try.prog 14 [.e (.sl x1), .e (.sl y1)] (.int c) := by rw [hc]; exact ok14 r r' x1 y1 hx1 hy1
        by_cases hcl : c ≤ 0
        · have e4 : A.le c 0 = true := by rw [hA.le]; exact decide_eq_true hcl
          have hlr : Ab.leR r r' = true := by rw [Ab.leR, ← hc]; exact decide_eq_true hcl
          have go := go r x1 A2 (r' :: B2) x2 y hx1 (by rw [hm0]; simp) (by rw [List.cons_merge_cons, if_pos hlr]) hx2 hy
          clear hK hx hy hx1 hx2 hy1 hy2 hc
          cbv
          repeat' first | with_reducible rfl | (simp only [e1, e3, e4]; cbv) | with_reducible refine And.intro ?_ ?_ | ((with_reducible intro hcc); first | (cases hcc; done) | skip) | ((with_reducible first | show goC _ _ _ _ _ _ _ _ | show goOps _ _ _ _ _ | show goD _ _ _ _ _ _); cbv) | ((with_reducible show okWr _ _ = _); rfl) | ((with_reducible first | refine callK_f hA hP h26 ?_ ?_ ?_); exact rfl; exact rfl; cbv) | ((with_reducible refine hA.len x _ _ _ _ fun z hz hb => ?_); (have e6 := hzx.trans hz.symm); subst e6; cbv) | ((with_reducible refine hA.len y _ _ _ _ fun z hz hb => ?_); (have e6 := hzy.trans hz.symm); subst e6; cbv) | ((with_reducible refine hA.row x 0 _ ⟨hin, fun row hrow => ?_⟩); rw [hrow0] at hrow; subst hrow; cbv) | ((with_reducible refine hA.row y 0 _ ⟨hiny, fun row hrow => ?_⟩); rw [hrow0y] at hrow; subst hrow; cbv) | ((with_reducible refine hA.slc x _ _ _ _ ⟨?_, fun zs hzs => ?_⟩); rotate_left; (have e8 : zs = x2 := hzs.trans hdrop); subst e8; cbv) | ((with_reducible first | refine hA.fin_pl _ _ _ ?_ | refine hA.len _ _ _ _ _ fun z hz hb => ?_ | refine hA.off _ _ _ _ fun b hb => ?_ | refine hA.alt _ _ (Or.inl ?_) | refine hA.gb0 true _ ?_ | refine hA.gb0 false _ ?_ | refine hA.gb _ _ fun vb hvb => ?_); cbv) | ((with_reducible first | refine hA.app _ _ _ _ _ ⟨?_, fun zs m hzs hm => ?_⟩ | refine hA.app0 _ _ _ ⟨?_, fun m hm => ?_⟩ | refine hA.slc _ _ _ _ _ ⟨?_, fun zs hzs => ?_⟩ | refine hA.appv _ _ _ _ _ _ ⟨?_, fun bb m ds hbb hm hds => ?_⟩ | refine hA.vsl _ _ _ _ ⟨?_, fun m hm => ?_⟩ | refine hA.vcut _ _ _ _ ⟨?_, fun cs hcs => ?_⟩ | refine hA.appw _ _ _ _ _ _ _ ⟨?_, fun bb m ds hbb hm hds => ?_⟩); rotate_left; cbv) | (simp only [hA.lits]; cbv)
          all_goals try simp only [hA.ar, inR, n_cast, Int.ofNat_eq_natCast, Option.getD_some, Option.getD_none] at *
          all_goals first
            | omega
            | exact go _ _ _ _ (by assumption) (by assumption) rfl ⟨.inl rfl, .inl rfl, .inl rfl, trivial⟩
            | exact ⟨hax, by decide, hle, Int.le_refl _⟩
            | (rw [hq]; done)
            | exact ⟨rfl, trivial⟩
            | (simp only [List.length_cons, List.length_nil]; omega)
            | (trace_state; fail)
        · have e4 : A.le c 0 = false := by rw [hA.le]; exact decide_eq_false hcl
          have hlr : ¬ Ab.leR r r' = true := by rw [Ab.leR, ← hc]; simpa using hcl
          have go := go r' y1 (r :: A2) B2 x y2 hy1 (by rw [hm0]; simp only [List.length_cons]; omega) (by rw [List.cons_merge_cons, if_neg hlr]) hx hy2
          clear hK hx hy hx1 hx2 hy1 hy2 hc
          cbv
          repeat' first | with_reducible rfl | (simp only [e1, e3, e4]; cbv) | with_reducible refine And.intro ?_ ?_ | ((with_reducible intro hcc); first | (cases hcc; done) | skip) | ((with_reducible first | show goC _ _ _ _ _ _ _ _ | show goOps _ _ _ _ _ | show goD _ _ _ _ _ _); cbv) | ((with_reducible show okWr _ _ = _); rfl) | ((with_reducible first | refine callK_f hA hP h26 ?_ ?_ ?_); exact rfl; exact rfl; cbv) | ((with_reducible refine hA.len x _ _ _ _ fun z hz hb => ?_); (have e6 := hzx.trans hz.symm); subst e6; cbv) | ((with_reducible refine hA.len y _ _ _ _ fun z hz hb => ?_); (have e6 := hzy.trans hz.symm); subst e6; cbv) | ((with_reducible refine hA.row x 0 _ ⟨hin, fun row hrow => ?_⟩); rw [hrow0] at hrow; subst hrow; cbv) | ((with_reducible refine hA.row y 0 _ ⟨hiny, fun row hrow => ?_⟩); rw [hrow0y] at hrow; subst hrow; cbv) | ((with_reducible refine hA.slc y _ _ _ _ ⟨?_, fun zs hzs => ?_⟩); rotate_left; (have e8 : zs = y2 := hzs.trans hdropy); subst e8; cbv) | ((with_reducible first | refine hA.fin_pl _ _ _ ?_ | refine hA.len _ _ _ _ _ fun z hz hb => ?_ | refine hA.off _ _ _ _ fun b hb => ?_ | refine hA.alt _ _ (Or.inl ?_) | refine hA.gb0 true _ ?_ | refine hA.gb0 false _ ?_ | refine hA.gb _ _ fun vb hvb => ?_); cbv) | ((with_reducible first | refine hA.app _ _ _ _ _ ⟨?_, fun zs m hzs hm => ?_⟩ | refine hA.app0 _ _ _ ⟨?_, fun m hm => ?_⟩ | refine hA.slc _ _ _ _ _ ⟨?_, fun zs hzs => ?_⟩ | refine hA.appv _ _ _ _ _ _ ⟨?_, fun bb m ds hbb hm hds => ?_⟩ | refine hA.vsl _ _ _ _ ⟨?_, fun m hm => ?_⟩ | refine hA.vcut _ _ _ _ ⟨?_, fun cs hcs => ?_⟩ | refine hA.appw _ _ _ _ _ _ _ ⟨?_, fun bb m ds hbb hm hds => ?_⟩); rotate_left; cbv) | (simp only [hA.lits]; cbv)
          all_goals try simp only [hA.ar, inR, n_cast, Int.ofNat_eq_natCast, Option.getD_some, Option.getD_none] at *
          all_goals first
            | omega
            | exact go _ _ _ _ (by assumption) (by assumption) rfl ⟨.inl rfl, .inl rfl, .inl rfl, trivial⟩
            | exact ⟨hay, by decide, hley, Int.le_refl _⟩
            | (rw [hq]; done)
            | exact ⟨rfl, trivial⟩
            | (simp only [List.length_cons, List.length_nil]; omega)
            | (trace_state; fail))
end Go.Proofs.Ytfplalbognalkaa.Ab.NS
/- The law of SortRows, walked. -/
namespace Go.Proofs.Ytfplalbognalkaa.Ab.NS
open Go
def c4 : F := ⟨69, [(.tmp 2)], (.seq (.reg [⟨(some 2), none, (.mov (.c (.bool false)))⟩]) (.seq (.reg [⟨(some 3), none, (.mov (.c (.int 1048576)))⟩]) (.seq (.reg [⟨(some 11), none, (.mov (.s 0))⟩, ⟨(some 12), none, (.mov (.s 3))⟩, ⟨(some 13), none, (.call 16 [(.s 11), (.s 12)])⟩, ⟨(some 3), none, (.mov (.s 13))⟩]) (.seq (.seq (.reg [⟨(some 14), none, (.mov (.s 3))⟩, ⟨(some 15), none, (.bin .lss (.s 14) (.c (.int 0)))⟩]) (.cond (.s 15) (.seq (.reg [⟨(some 2), none, (.mov (.c (.bool true)))⟩]) .ret) .skip)) (.seq (.reg [⟨(some 16), none, (.mov (.s 0))⟩, ⟨(some 17), none, (.call 18 [(.s 16)])⟩, ⟨(some 18), none, (.call 17 [(.s 17)])⟩, ⟨(some 4), none, (.mov (.s 18))⟩]) (.seq (.reg [⟨(some 19), none, (.mov (.s 0))⟩, ⟨(some 20), none, (.call 18 [(.s 19)])⟩, ⟨(some 5), none, (.mov (.s 20))⟩]) (.seq (.reg [⟨(some 21), none, (.mov (.s 5))⟩, ⟨(some 22), none, (.call 11 [(.s 21)])⟩, ⟨(some 6), none, (.mov (.s 22))⟩]) (.seq (.seq (.reg [⟨(some 23), none, (.mov (.s 6))⟩, ⟨(some 24), none, (.mov (.s 4))⟩, ⟨(some 25), none, (.call 19 [(.s 23), (.s 24)])⟩, ⟨(some 26), none, (.un .not (.s 25))⟩]) (.cond (.s 26) (.seq (.reg [⟨(some 2), none, (.mov (.c (.bool false)))⟩]) .ret) .skip)) (.seq (.seq (.reg [⟨(some 27), none, (.mov (.s 5))⟩, ⟨(some 28), none, (.mov (.s 0))⟩, ⟨(some 29), none, (.call 18 [(.s 28)])⟩, ⟨(some 30), none, (.call 19 [(.s 27), (.s 29)])⟩, ⟨(some 31), none, (.un .not (.s 30))⟩]) (.cond (.s 31) (.seq (.reg [⟨(some 2), none, (.mov (.c (.bool false)))⟩]) .ret) .skip)) (.seq (.reg [⟨(some 7), none, (.mov (.c (.int 1)))⟩]) (.seq (.reg [⟨(some 32), none, (.mov (.s 5))⟩, ⟨(some 33), none, (.mov (.s 7))⟩, ⟨(some 34), none, (.call 20 [(.s 32), (.s 33)])⟩, ⟨(some 7), none, (.mov (.s 34))⟩]) (.seq (.seq (.reg [⟨(some 35), none, (.mov (.s 7))⟩, ⟨(some 36), none, (.bin .lss (.s 35) (.c (.int 0)))⟩, ⟨(some 37), none, (.mov (.s 36))⟩, ⟨(some 38), (some (37, false)), (.mov (.s 6))⟩, ⟨(some 39), (some (37, false)), (.mov (.s 4))⟩, ⟨(some 40), (some (37, false)), (.call 19 [(.s 38), (.s 39)])⟩, ⟨(some 41), (some (37, false)), (.un .not (.s 40))⟩, ⟨(some 42), none, (.pick (.s 37) (.c (.bool true)) (.s 41))⟩]) (.cond (.s 42) (.seq (.reg [⟨(some 2), none, (.mov (.c (.bool false)))⟩]) .ret) .skip)) (.seq (.reg [⟨(some 8), none, (.mov (.c (.int 1)))⟩]) (.seq (.reg [⟨(some 43), none, (.mov (.s 6))⟩, ⟨(some 44), none, (.mov (.s 8))⟩, ⟨(some 45), none, (.call 20 [(.s 43), (.s 44)])⟩, ⟨(some 8), none, (.mov (.s 45))⟩]) (.seq (.reg [⟨(some 9), none, (.mov (.c (.int 1)))⟩]) (.seq (.reg [⟨(some 46), none, (.mov (.s 6))⟩, ⟨(some 47), none, (.mov (.s 9))⟩, ⟨(some 48), none, (.call 21 [(.s 46), (.s 47)])⟩, ⟨(some 9), none, (.mov (.s 48))⟩]) (.seq (.seq (.reg [⟨(some 49), none, (.mov (.s 9))⟩, ⟨(some 50), none, (.bin .lss (.s 49) (.c (.int 0)))⟩]) (.cond (.s 50) (.seq (.reg [⟨(some 2), none, (.mov (.c (.bool false)))⟩]) .ret) .skip)) (.seq (.seq (.reg [⟨(some 51), none, (.mov (.s 9))⟩, ⟨(some 52), none, (.mov (.s 8))⟩, ⟨(some 53), none, (.bin .neq (.s 51) (.s 52))⟩]) (.cond (.s 53) (.seq (.reg [⟨(some 2), none, (.mov (.c (.bool false)))⟩]) .ret) .skip)) (.seq (.reg [⟨(some 54), none, (.mov (.s 0))⟩, ⟨(some 55), none, (.call 18 [(.s 54)])⟩, ⟨(some 56), none, (.call 11 [(.s 55)])⟩, ⟨(some 10), none, (.mov (.s 56))⟩]) (.seq (.seq (.reg [⟨(some 57), none, (.mov (.s 10))⟩, ⟨(some 58), none, (.mov (.s 4))⟩, ⟨(some 59), none, (.call 19 [(.s 57), (.s 58)])⟩, ⟨(some 60), none, (.un .not (.s 59))⟩]) (.cond (.s 60) (.seq (.reg [⟨(some 2), none, (.mov (.c (.bool false)))⟩]) .ret) .skip)) (.seq (.reg [⟨(some 9), none, (.mov (.c (.int 1)))⟩]) (.seq (.reg [⟨(some 61), none, (.mov (.s 6))⟩, ⟨(some 62), none, (.mov (.s 9))⟩, ⟨(some 63), none, (.call 21 [(.s 61), (.s 62)])⟩, ⟨(some 9), none, (.mov (.s 63))⟩]) (.seq (.seq (.reg [⟨(some 64), none, (.mov (.s 9))⟩, ⟨(some 65), none, (.bin .lss (.s 64) (.c (.int 0)))⟩]) (.cond (.s 65) (.seq (.reg [⟨(some 2), none, (.mov (.c (.bool false)))⟩]) .ret) .skip)) (.seq (.seq (.reg [⟨(some 66), none, (.mov (.s 9))⟩, ⟨(some 67), none, (.mov (.s 8))⟩, ⟨(some 68), none, (.bin .neq (.s 66) (.s 67))⟩]) (.cond (.s 68) (.seq (.reg [⟨(some 2), none, (.mov (.c (.bool false)))⟩]) .ret) .skip)) (.seq (.reg [⟨(some 2), none, (.mov (.c (.bool true)))⟩]) .ret)))))))))))))))))))))))))⟩
theorem p4 : prepF Try.prog 4 = some c4 := by kernel_rfl
set_option maxRecDepth 100000 in
set_option maxHeartbeats 2000000 in
theorem ok4 (l : List Ab.Row) (es : List (List E)) (he : es = l.map rsr) : Plain Try.prog 4 [.e (.sl es)] (.bool true) := okOf mixed p4 fun A P hA hP => (by
  have h46 := ok16 l es he 1048576 (by omega)
  by_cases c1 : (1048576 : Int) - (l.length + sumC cV l) < 0
  · rw [show cut 1048576 (l.length + sumC cV l) = -1 by unfold cut; rw [if_pos c1]] at h46
    cbv
    repeat' first | with_reducible rfl | with_reducible refine And.intro ?_ ?_ | ((with_reducible intro hcc); first | (cases hcc; done) | skip) | ((with_reducible first | show goC _ _ _ _ _ _ _ _ | show goOps _ _ _ _ _ | show goD _ _ _ _ _ _); cbv) | ((with_reducible show okWr _ _ = _); rfl) | ((with_reducible first | refine callK_f hA hP h46 ?_ ?_ ?_); exact rfl; exact rfl; cbv) | ((with_reducible first | refine hA.fin_pl _ _ _ ?_ | refine hA.gb0 true _ ?_ | refine hA.gb0 false _ ?_ | refine hA.gb _ _ fun vb hvb => ?_); cbv) | (simp only [hA.lits]; cbv)
    all_goals try simp only [hA.ar, inR, n_cast, Int.ofNat_eq_natCast, Option.getD_some, Option.getD_none] at *
    all_goals grind
  rw [show cut 1048576 (l.length + sumC cV l) = 1048576 - (l.length + sumC cV l) by unfold cut; rw [if_neg c1]] at h46
  have hs0 := sumC_nonneg cV_nonneg l
  have hl : es.length = l.length := by rw [he, List.length_map]
  have hlen : es.length ≤ 1048576 := by omega
  have hr : ∀ r ∈ l, r.length ≤ 1048576 := fun r h => by
    have : (r.length : Int) ≤ sumC cV l := sumC_mem cV_nonneg h
    omega
  obtain ⟨a, ha⟩ : ∃ a : Int, a = 1048576 - (l.length + sumC cV l) := ⟨_, rfl⟩
  have ha0 : A.lt a 0 = false := by rw [hA.lt]; exact decide_eq_false (by omega)
  rw [← ha] at h46
  -- the trees
  obtain ⟨X, hX⟩ : ∃ x, x = E.fs (0 + es.length) (rowsN 0 l) := ⟨_, rfl⟩
  obtain ⟨Y, hY⟩ : ∃ y, y = E.fs (0 + es.length) ((sortN 0 l).map nrow) := ⟨_, rfl⟩
  obtain ⟨ws, hws⟩ : ∃ w, w = (sortW l).map rsr := ⟨_, rfl⟩
  have hes : (E.sl es).un = .sl es := by rw [he]; exact sl_un l
  have hwu : (E.sl ws).un = .sl ws := by rw [hws]; exact sl_un _
  have hXu : X.un = .sl es := by
    rw [hX, rowsN, un_rows, he, show (nums 0 l).map (fun r => rsr r.2) = ((nums 0 l).map Prod.snd).map rsr by rw [List.map_map]; rfl, nums_snd]
  have hYu : Y.un = .sl ws := by
    rw [hY, un_rows, hws, ← sortN_snd 0 l, List.map_map]
    rfl
  have bX : ∀ r ∈ nums 0 l, r.1 < 0 + es.length := fun r h => by
    have := List.mem_map_of_mem (f := Prod.fst) h
    rw [nums_fst, List.mem_range'_1] at this
    omega
  have bY : ∀ r ∈ sortN 0 l, r.1 < 0 + es.length := fun r h => by
    have := (sortN_fst 0 l).mem_iff.1 (List.mem_map_of_mem (f := Prod.fst) h)
    rw [List.mem_range'_1] at this
    omega
  obtain ⟨nX, hXn, hXd⟩ : ∃ ns, X.nums = some ns ∧ ns.Nodup := by
    rw [hX]
    exact fs_nums bX (by rw [nums_fst]; exact List.nodup_range')
  obtain ⟨nY, hYn, hYd⟩ : ∃ ns, Y.nums = some ns ∧ ns.Nodup := by
    rw [hY]
    exact fs_nums bY ((sortN_fst 0 l).nodup_iff.2 List.nodup_range')
  -- the contracts
  have once : True := trivial
  have h48 := Ab.ok18 l es he hlen hr
  have h47 : Plain Try.prog 17 [.e (.sl es)] (.e (.sl ws)) := by
    rw [hws]
    exact ok17 l es he hlen hr
  obtain ⟨mX, hmX⟩ : ∃ m, m = 0 + es.length + 1 := ⟨_, rfl⟩
  have t48 : Proc Try.prog 18 (fun _ => [.e (.sl es)]) (fun _ => [.ids 0]) (fun _ => .e X) (fun _ => [.ids mX]) := by
    rw [hX, hmX]
    exact ok18 0 l es he hlen hr
  have t43 : Proc Try.prog 11 (fun _ => [.e X.un]) (fun _ => [.ids 0]) (fun _ => .e Y) (fun _ => [.ids mX]) := by
    rw [hXu, hY, hmX]
    exact ok11 0 l es he hlen hr
  have q1 : Plain Try.prog 19 [.e Y.un, .e (.sl ws)] (.bool true) := by
    rw [hYu]
    have := ok19 (sortW l) (sortW l) ws ws hws hws
    rwa [decide_eq_true rfl] at this
  have q2 : Plain Try.prog 19 [.e X.un, .e X.un] (.bool true) := by
    rw [hXu]
    have := ok19 l l es es he he
    rwa [decide_eq_true rfl] at this
  -- the marks
  have cX : cnt (nums 0 l) ≤ 2 * sumC cV l := cnt_sum _ _ (nums_snd 0 l)
  have cY : cnt (sortN 0 l) ≤ 2 * sumC cV l := by
    rw [sortN, cnt_perm (srt_perm (nums 0 (l.map clR)))]
    refine Int.le_trans (cnt_sum _ _ (nums_snd 0 (l.map clR))) ?_
    rw [sumC_clR]
    exact Int.le_refl _
  obtain ⟨kX, hkX⟩ : ∃ k, k = 1 + cnt (nums 0 l) := ⟨_, rfl⟩
  obtain ⟨kY, hkY⟩ : ∃ k, k = 1 + cnt (sortN 0 l) := ⟨_, rfl⟩
  have p1 := cnt_nonneg (nums 0 l)
  have p2 := cnt_nonneg (sortN 0 l)
  obtain ⟨X', hX'⟩ : ∃ x, x = E.fs (0 + es.length) ((mkR 1 (nums 0 l)).map nrow) := ⟨_, rfl⟩
  obtain ⟨Y', hY'⟩ : ∃ x, x = E.fs (0 + es.length) ((mkR 1 (sortN 0 l)).map nrow) := ⟨_, rfl⟩
  have m1 : MarkC Try.prog 20 id X X' 1 kX := by
    rw [hX, hX', hkX]
    exact ok20 (nums 0 l) _ 1 (by omega) (by omega) (by rw [nums_len]; omega)
  have m2 : MarkC Try.prog 20 id Y Y' 1 kY := by
    rw [hY, hY', hkY]
    exact ok20 (sortN 0 l) _ 1 (by omega) (by omega) (by rw [sortN_len]; omega)
  have q3 : Plain Try.prog 21 [.e Y'.un, .int 1] (.int kY) := by
    rw [hY', un_rows, hkY]
    exact ok21 (sortN 0 l) 1 (by omega) (by omega)
  have kX0 : A.lt kX 0 = false := by rw [hA.lt]; exact decide_eq_false (by omega)
  have kY0 : A.lt kY 0 = false := by rw [hA.lt]; exact decide_eq_false (by omega)
  have kYY : A.eq kY kY = true := by rw [hA.eq]; exact decide_eq_true rfl
  clear hX hY hX' hY' hws he c1 hs0 hl hlen hr ha bX bY cX cY hkX hkY p1 p2 hmX
  cbv
  repeat' first | with_reducible rfl | (simp only [ha0, kX0, kY0, kYY]; cbv) | with_reducible refine And.intro ?_ ?_ | ((with_reducible intro hcc); first | (cases hcc; done) | skip) | ((with_reducible first | show goC _ _ _ _ _ _ _ _ | show goOps _ _ _ _ _ | show goD _ _ _ _ _ _); cbv) | ((with_reducible show okWr _ _ = _); rfl) | ((with_reducible first | refine callK_f hA hP h46 ?_ ?_ ?_); exact rfl; exact rfl; cbv) | (clear once; (with_reducible refine callK_f hA hP h48 ?_ ?_ ?_); exact rfl; exact rfl; cbv) | ((with_reducible first | refine callK_f hA hP h47 ?_ ?_ ?_); exact rfl; exact rfl; cbv) | ((with_reducible show A.call _ _ _ _ _ 18 _ _ _); refine callK_tree hA hP [] (fun _ _ => t48) ⟨.e hes, trivial⟩ hXn hXd Swap.e ?_; cbv) | ((with_reducible show A.call _ _ _ _ _ 11 _ _ _); refine callK_tree hA hP [0] (fun _ _ => t43) ⟨.rv (by decide) rfl, trivial⟩ hYn hYd Swap.e ?_; cbv) | ((with_reducible show A.call _ _ _ _ _ 11 _ _ _); refine callK_tree hA hP [3] (fun _ _ => t43) ⟨.rv (by decide) rfl, trivial⟩ hYn hYd Swap.e ?_; cbv) | ((with_reducible show A.call _ _ _ _ _ 19 _ _ _); refine callK_lookT hA hP [1] (fun _ _ => q1) ⟨.rv (by decide) rfl, .e hwu, trivial⟩ rfl ?_; cbv) | ((with_reducible show A.call _ _ _ _ _ 19 _ _ _); refine callK_lookT hA hP [4] (fun _ _ => q1) ⟨.rv (by decide) rfl, .e hwu, trivial⟩ rfl ?_; cbv) | ((with_reducible show A.call _ _ _ _ _ 19 _ _ _); refine callK_lookT hA hP [0, 2] (fun _ _ => q2) ⟨.rv (by decide) rfl, .rv (by decide) rfl, trivial⟩ rfl ?_; cbv) | ((with_reducible show A.call _ _ _ _ _ 20 _ _ _); refine callK_mark hA hP 0 rfl (fun _ _ _ _ r => rv_id r) ?_ m1; cbv) | ((with_reducible show A.call _ _ _ _ _ 20 _ _ _); refine callK_mark hA hP 1 rfl (fun _ _ _ _ r => rv_id r) ?_ m2; cbv) | ((with_reducible show A.call _ _ _ _ _ 21 _ _ _); refine callK_lookT hA hP [1] (fun _ _ => q3) ⟨.rv (by decide) rfl, .e rfl, trivial⟩ rfl ?_; cbv) | ((with_reducible first | refine hA.fin_pl _ _ _ ?_ | refine hA.gb0 true _ ?_ | refine hA.gb0 false _ ?_ | refine hA.gb _ _ fun vb hvb => ?_); cbv) | (simp only [hA.lits]; cbv)
  all_goals try simp only [hA.ar, inR, n_cast, Int.ofNat_eq_natCast, Option.getD_some, Option.getD_none] at *
  all_goals first
    | omega
    | rfl
    | (trace_state; fail))
end Go.Proofs.Ytfplalbognalkaa.Ab.NS
/- Names, as plain functions of their bytes. -/
namespace Go.Proofs.Ytfplalbognalkaa.Ab
open Go
abbrev D.u8 (c : Int) : D := .e (.v (.int .u8 c))
def isLet (c : Int) : Bool := decide (65 ≤ c ∧ c ≤ 90) || decide (97 ≤ c ∧ c ≤ 122)
def isDig (c : Int) : Bool := decide (48 ≤ c ∧ c ≤ 57)
abbrev kw0 : List UInt8 := [83, 69, 76, 69, 67, 84]
abbrev kw1 : List UInt8 := [68, 73, 83, 84, 73, 78, 67, 84]
abbrev kw2 : List UInt8 := [70, 82, 79, 77]
abbrev kw3 : List UInt8 := [87, 72, 69, 82, 69]
abbrev kw4 : List UInt8 := [85, 78, 73, 79, 78]
abbrev kw5 : List UInt8 := [65, 76, 76]
abbrev kw6 : List UInt8 := [65, 78, 89]
abbrev kw7 : List UInt8 := [65, 78, 68]
abbrev kw8 : List UInt8 := [79, 82]
abbrev kw9 : List UInt8 := [78, 79, 84]
abbrev kw10 : List UInt8 := [69, 88, 73, 83, 84, 83]
abbrev kw11 : List UInt8 := [73, 78]
abbrev kw12 : List UInt8 := [73, 83]
abbrev kw13 : List UInt8 := [78, 85, 76, 76]
abbrev kw14 : List UInt8 := [67, 79, 85, 78, 84]
abbrev kw15 : List UInt8 := [77, 73, 78]
abbrev kw16 : List UInt8 := [77, 65, 88]
/-- One of the words that are keys. -/
def keyB (s : List UInt8) : Bool := (decide (s = kw0) || (decide (s = kw1) || (decide (s = kw2) || (decide (s = kw3) || (decide (s = kw4) || (decide (s = kw5) || (decide (s = kw6) || (decide (s = kw7) || (decide (s = kw8) || (decide (s = kw9) || (decide (s = kw10) || (decide (s = kw11) || (decide (s = kw12) || (decide (s = kw13) || (decide (s = kw14) || (decide (s = kw15) || decide (s = kw16)))))))))))))))))
def chAt (s : List UInt8) (j : Nat) : Int := ((s.getD j 0).toNat : Int)
def okAt (s : List UInt8) (j : Nat) : Bool := isLet (chAt s j) || (decide (j ≠ 0) && (isDig (chAt s j) || decide (chAt s j = 95)))
def isWord (s : List UInt8) : Bool := decide (0 < s.length ∧ ∀ j, j < s.length → okAt s j = true)
def nameB (s : List UInt8) : Bool := isWord s && (decide (s.length ≤ 64) && !keyB s)
end Go.Proofs.Ytfplalbognalkaa.Ab
/- Names: letters, digits, words, keys. -/
namespace Go.Proofs.Ytfplalbognalkaa.Ab
open Go
theorem ok192 (c : Int) : Plain Try.prog 192 [.u8 c] (.bool (isLet c)) := okOf mixed p192 fun A P hA hP => (by
  obtain ⟨r, hr⟩ : ∃ r, r = isLet c := ⟨_, rfl⟩
  rw [← hr]
  cbv
  repeat' first | with_reducible rfl | with_reducible refine And.intro ?_ ?_ | ((with_reducible intro hcc); first | (cases hcc; done) | skip) | ((with_reducible first | show goC _ _ _ _ _ _ _ _ | show goOps _ _ _ _ _ | show goD _ _ _ _ _ _); cbv) | ((with_reducible show okWr _ _ = _); rfl) | ((with_reducible first | refine hA.fin_pl _ _ _ ?_ | refine hA.gb0 true _ ?_ | refine hA.gb0 false _ ?_ | refine hA.gb _ _ fun vb hvb => ?_); cbv) | (simp only [hA.lits]; cbv)
  all_goals try simp only [hA.ar, inR, n_cast, Int.ofNat_eq_natCast, Option.getD_some, Option.getD_none] at *
  all_goals (unfold isLet at hr; first | (subst hr; grind; done) | (subst hr; simp at *; grind; done) | (subst hr; congr; by_cases a : 97 ≤ c <;> by_cases b : 65 ≤ c <;> simp [a, b] <;> grind)))
theorem ok166 (c : Int) : Plain Try.prog 166 [.u8 c] (.bool (isLet c)) := okOf mixed p166 fun A P hA hP => (by
  obtain ⟨r, hr⟩ : ∃ r, r = isLet c := ⟨_, rfl⟩
  rw [← hr]
  cbv
  repeat' first | with_reducible rfl | with_reducible refine And.intro ?_ ?_ | ((with_reducible intro hcc); first | (cases hcc; done) | skip) | ((with_reducible first | show goC _ _ _ _ _ _ _ _ | show goOps _ _ _ _ _ | show goD _ _ _ _ _ _); cbv) | ((with_reducible show okWr _ _ = _); rfl) | ((with_reducible first | refine hA.fin_pl _ _ _ ?_ | refine hA.gb0 true _ ?_ | refine hA.gb0 false _ ?_ | refine hA.gb _ _ fun vb hvb => ?_); cbv) | (simp only [hA.lits]; cbv)
  all_goals try simp only [hA.ar, inR, n_cast, Int.ofNat_eq_natCast, Option.getD_some, Option.getD_none] at *
  all_goals (unfold isLet at hr; first | (subst hr; grind; done) | (subst hr; simp at *; grind; done) | (subst hr; congr; by_cases a : 97 ≤ c <;> by_cases b : 65 ≤ c <;> simp [a, b] <;> grind)))
theorem ok193 (c : Int) : Plain Try.prog 193 [.u8 c] (.bool (isDig c)) := okOf mixed p193 fun A P hA hP => (by
  obtain ⟨r, hr⟩ : ∃ r, r = isDig c := ⟨_, rfl⟩
  rw [← hr]
  cbv
  repeat' first | with_reducible rfl | with_reducible refine And.intro ?_ ?_ | ((with_reducible intro hcc); first | (cases hcc; done) | skip) | ((with_reducible first | show goC _ _ _ _ _ _ _ _ | show goOps _ _ _ _ _ | show goD _ _ _ _ _ _); cbv) | ((with_reducible show okWr _ _ = _); rfl) | ((with_reducible first | refine hA.fin_pl _ _ _ ?_ | refine hA.gb0 true _ ?_ | refine hA.gb0 false _ ?_ | refine hA.gb _ _ fun vb hvb => ?_); cbv) | (simp only [hA.lits]; cbv)
  all_goals try simp only [hA.ar, inR, n_cast, Int.ofNat_eq_natCast, Option.getD_some, Option.getD_none] at *
  all_goals (unfold isDig at hr; first | (subst hr; grind; done) | (subst hr; simp at *; grind; done) | (subst hr; congr; by_cases a : 97 ≤ c <;> by_cases b : 65 ≤ c <;> simp [a, b] <;> grind)))
theorem ok168 (c : Int) : Plain Try.prog 168 [.u8 c] (.bool (isDig c)) := okOf mixed p168 fun A P hA hP => (by
  obtain ⟨r, hr⟩ : ∃ r, r = isDig c := ⟨_, rfl⟩
  rw [← hr]
  cbv
  repeat' first | with_reducible rfl | with_reducible refine And.intro ?_ ?_ | ((with_reducible intro hcc); first | (cases hcc; done) | skip) | ((with_reducible first | show goC _ _ _ _ _ _ _ _ | show goOps _ _ _ _ _ | show goD _ _ _ _ _ _); cbv) | ((with_reducible show okWr _ _ = _); rfl) | ((with_reducible first | refine hA.fin_pl _ _ _ ?_ | refine hA.gb0 true _ ?_ | refine hA.gb0 false _ ?_ | refine hA.gb _ _ fun vb hvb => ?_); cbv) | (simp only [hA.lits]; cbv)
  all_goals try simp only [hA.ar, inR, n_cast, Int.ofNat_eq_natCast, Option.getD_some, Option.getD_none] at *
  all_goals (unfold isDig at hr; first | (subst hr; grind; done) | (subst hr; simp at *; grind; done) | (subst hr; congr; by_cases a : 97 ≤ c <;> by_cases b : 65 ≤ c <;> simp [a, b] <;> grind)))
set_option maxRecDepth 100000 in
set_option maxHeartbeats 4000000 in
theorem ok164 (s : List UInt8) : Plain Try.prog 164 [.str s] (.bool (keyB s)) := okOf mixed p164 fun A P hA hP => (by
  obtain ⟨r, hr⟩ : ∃ r, r = keyB s := ⟨_, rfl⟩
  rw [← hr]
  cbv
  repeat' first | with_reducible rfl | with_reducible refine And.intro ?_ ?_ | ((with_reducible intro hcc); first | (cases hcc; done) | skip) | ((with_reducible first | show goC _ _ _ _ _ _ _ _ | show goOps _ _ _ _ _ | show goD _ _ _ _ _ _); cbv) | ((with_reducible show okWr _ _ = _); rfl) | ((with_reducible first | refine hA.fin_pl _ _ _ ?_ | refine hA.gb0 true _ ?_ | refine hA.gb0 false _ ?_ | refine hA.gb _ _ fun vb hvb => ?_); cbv) | (simp only [hA.lits]; cbv)
  all_goals try simp only [hA.ar, inR, n_cast, Int.ofNat_eq_natCast, Option.getD_some, Option.getD_none] at *
  all_goals try (clear hr; grind; done)
  all_goals
    rw [hr]
    congr 3
    rw [Bool.eq_iff_iff]
    subst_vars
    first
      | (simp only [Bool.if_true_left, Bool.or_eq_true, decide_eq_true_eq, keyB, or_assoc]; done)
      | (simp_all [keyB]; done))
set_option maxRecDepth 100000 in
set_option maxHeartbeats 4000000 in
theorem ok167 (s : List UInt8) : Plain Try.prog 167 [.str s] (.bool (keyB s)) := okOf mixed p167 fun A P hA hP => (by
  obtain ⟨r, hr⟩ : ∃ r, r = keyB s := ⟨_, rfl⟩
  rw [← hr]
  cbv
  repeat' first | with_reducible rfl | with_reducible refine And.intro ?_ ?_ | ((with_reducible intro hcc); first | (cases hcc; done) | skip) | ((with_reducible first | show goC _ _ _ _ _ _ _ _ | show goOps _ _ _ _ _ | show goD _ _ _ _ _ _); cbv) | ((with_reducible show okWr _ _ = _); rfl) | ((with_reducible first | refine hA.fin_pl _ _ _ ?_); cbv) | (simp only [hA.lits]; cbv)
  all_goals try simp only [hA.ar, inR, n_cast, Int.ofNat_eq_natCast, Option.getD_some, Option.getD_none] at *
  all_goals try (clear hr; grind; done)
  all_goals
    rw [hr]
    congr 3
    rw [Bool.eq_iff_iff]
    subst_vars
    first
      | (simp only [Bool.if_true_left, Bool.or_eq_true, decide_eq_true_eq, keyB, or_assoc]; done)
      | (simp_all [keyB]; done))
end Go.Proofs.Ytfplalbognalkaa.Ab
/- Flat plans: which are valid, as the program and as the specification say it; that both say the same. -/
namespace Go.Proofs.Ytfplalbognalkaa.Ab
open Go
structure Fd where
  K : Int
  T : Int
  M : Int
  W : Int
  Ex : List (Int × Int)
  Exs : List (List (Int × Int))
  L : Int
  R : Int
  deriving DecidableEq, Inhabited
abbrev orr (r : List (Int × Int)) : List E := [E.sl (r.map orow)]
abbrev fdr (d : Fd) : List E := [E.int d.K, E.int d.T, E.int d.M, E.int d.W, E.sl (d.Ex.map orow), E.sl (d.Exs.map orr), E.int d.L, E.int d.R]
/-! ### The specification -/
def two (k : Int) : Bool := decide (k = 5 ∨ k = 6 ∨ k = 7 ∨ k = 9 ∨ k = 10 ∨ k = 11)
def one (k : Int) : Bool := two k || decide (k = 3 ∨ k = 4 ∨ k = 8)
def mat (k : Int) : Bool := two k && decide (k ≠ 9)
def usS (k m : Int) : Bool := decide (k = 3 ∨ k = 6 ∨ k = 10 ∨ k = 11 ∨ (k = 7 ∧ m ≠ 1))
def plc (on : Bool) (p i : Int) : Bool := if on then decide (0 ≤ p ∧ p < i) else decide (p = 0)
def fldS (d : Fd) (i nt : Int) : Bool :=
  decide (1 ≤ d.K ∧ d.K ≤ 11) && ((if d.K = 2 then decide (0 ≤ d.T ∧ d.T < nt) else decide (d.T = 0)) && ((if d.K = 7 then decide (1 ≤ d.M ∧ d.M ≤ 4) else decide (d.M = 0)) &&
  (plc (one d.K) d.L i && (plc (two d.K) d.R i && ((mat d.K || decide (d.W = 0)) && ((usS d.K d.M || decide (d.Ex = [])) && (decide (d.K = 4) || decide (d.Exs = []))))))))
def widS (d : Fd) (cols : Int → Int) (l r : Int) : Int :=
  if d.K = 1 then 0 else if d.K = 2 then cols d.T else if mat d.K = true ∧ (d.W < 0 ∨ d.W > l ∨ d.W > r) then -1
  else if usS d.K d.M = true ∧ exOk d.Ex (if d.K = 3 then l else r) = false then -1
  else if (d.Exs.all fun e => exOk e l) = false then -1
  else if d.K = 4 then d.Exs.length else if d.K = 5 then l + r - d.W else if d.K = 6 ∨ d.K = 7 then l + 1 else if d.K = 9 ∧ l ≠ r then -1 else l
def at0 (on : Bool) (ws : List Int) (p : Int) : Int := if on then ws.getD p.toNat 0 else 0
def stS (nt : Int) (cols : Int → Int) (ws : List Int) (d : Fd) : Option Int :=
  if fldS d ws.length nt = true then
    let w := widS d cols (at0 (one d.K) ws d.L) (at0 (two d.K) ws d.R)
    if w < 0 ∨ w > 200 then none else some w
  else none
/-! ### The program -/
def lef (k : Int) : Bool := decide (3 ≤ k ∧ k ≤ 11)
def rig (k : Int) : Bool := decide (5 ≤ k ∧ k ≤ 7) || decide (9 ≤ k ∧ k ≤ 11)
def mtc (k : Int) : Bool := decide (5 ≤ k ∧ k ≤ 7) || (decide (k = 10) || decide (k = 11))
def usI (k m : Int) : Bool := decide (k = 3) || (decide (k = 6) || (decide (k = 10) || (decide (k = 11) || (decide (k = 7) && decide (1 < m)))))
def fldI (d : Fd) (i : Int) : Bool :=
  decide (1 ≤ d.K ∧ d.K ≤ 11) && (plc (lef d.K) d.L i && (plc (rig d.K) d.R i && ((decide (d.K = 2) || decide (d.T = 0)) && ((decide (d.K = 7) || decide (d.M = 0)) && ((mtc d.K || decide (d.W = 0)) &&
  ((!decide (d.K = 7) || decide (1 ≤ d.M ∧ d.M ≤ 4)) && ((usI d.K d.M || decide (d.Ex = [])) && (decide (d.K = 4) || decide (d.Exs = [])))))))))
def widI (d : Fd) (nt : Int) (cols : Int → Int) (l r : Int) : Int :=
  if mtc d.K = true ∧ (d.W < 0 ∨ d.W > min l r) then -1
  else if usI d.K d.M = true ∧ exOk d.Ex (if d.K = 3 then l else r) = false then -1
  else if d.K = 2 ∧ (d.T < 0 ∨ nt ≤ d.T) then -1
  else if d.K = 4 ∧ (d.Exs.all fun e => exOk e l) = false then -1
  else if d.K = 9 ∧ l ≠ r then -1
  else
    let w := if d.K = 2 then cols d.T else if d.K = 4 then (d.Exs.length : Int) else if d.K = 5 then l + r - d.W else if d.K = 6 ∨ d.K = 7 then l + 1 else l
    if w > 200 then -1 else w
def stI (nt : Int) (cols : Int → Int) (ws : List Int) (d : Fd) : Option Int :=
  if fldI d ws.length = true then
    let w := widI d nt cols (at0 (lef d.K) ws d.L) (at0 (rig d.K) ws d.R)
    if w < 0 then none else some w
  else none
theorem two_rig {k : Int} : rig k = two k := by unfold rig two; rw [Bool.eq_iff_iff]; simp; omega
theorem one_lef {k : Int} : lef k = one k := by rw [one, ← two_rig, rig, lef, Bool.eq_iff_iff]; simp; omega
theorem mat_mtc {k : Int} : mtc k = mat k := by rw [mat, ← two_rig, rig, mtc, Bool.eq_iff_iff]; simp; omega
theorem us_us {k m : Int} (h : k = 7 → 1 ≤ m) : usI k m = usS k m := by unfold usI usS; rw [Bool.eq_iff_iff]; simp; omega
theorem st_eqF (nt : Int) (cols : Int → Int) (ws : List Int) (d : Fd) : stI nt cols ws d = stS nt cols ws d := by
  obtain ⟨K, T, M, W, Ex, Exs, L, R⟩ := d
  unfold stI stS fldI fldS
  simp only [two_rig, one_lef, mat_mtc]
  by_cases hM : K = 7 ∧ ¬ (1 ≤ M ∧ M ≤ 4)
  · simp [hM.1, hM.2]
  · have hu : usI K M = usS K M := us_us fun h => by omega
    unfold widI widS
    simp only [hu, mat_mtc]
    obtain ⟨l, hl⟩ : ∃ l, l = at0 (one K) ws L := ⟨_, rfl⟩
    obtain ⟨r, hr⟩ : ∃ l, l = at0 (two K) ws R := ⟨_, rfl⟩
    rw [← hl, ← hr]
    have hl0 : one K = false → l = 0 := fun h => by rw [hl, h]; rfl
    obtain ⟨x1, hx1⟩ : ∃ x, x = plc (one K) L ws.length := ⟨_, rfl⟩
    obtain ⟨x2, hx2⟩ : ∃ x, x = plc (two K) R ws.length := ⟨_, rfl⟩
    rw [← hx1, ← hx2]
    obtain ⟨x3, hx3⟩ : ∃ x, x = exOk Ex (if K = 3 then l else r) := ⟨_, rfl⟩
    obtain ⟨x4, hx4⟩ : ∃ x, x = Exs.all fun e => exOk e l := ⟨_, rfl⟩
    have h4 : Exs = [] → x4 = true := fun h => by rw [hx4, h]; rfl
    rw [← hx3, ← hx4]
    clear hx1 hx2 hx3 hx4 hl hr hu
    have hK : K = 1 ∨ K = 2 ∨ K = 3 ∨ K = 4 ∨ K = 5 ∨ K = 6 ∨ K = 7 ∨ K = 8 ∨ K = 9 ∨ K = 10 ∨ K = 11 ∨ ¬ (1 ≤ K ∧ K ≤ 11) := by omega
    rcases hK with rfl | rfl | rfl | rfl | rfl | rfl | rfl | rfl | rfl | rfl | rfl | hK
    case inr.inr.inr.inr.inr.inr.inr.inr.inr.inr.inr => simp [hK]
    all_goals simp [one, two, mat, usS] at hl0 ⊢
    all_goals first | grind | (trace_state; fail)
end Go.Proofs.Ytfplalbognalkaa.Ab
/- Names: valid, by the specification and by the program. -/
namespace Go.Proofs.Ytfplalbognalkaa.Ab
open Go
set_option maxRecDepth 100000 in
set_option maxHeartbeats 1000000 in
theorem ok163 (s : List UInt8) : Plain Try.prog 163 [.str s] (.bool (isWord s)) := okOf mixed p163 fun A P hA hP => (by
  obtain ⟨r, hr⟩ : ∃ r, r = isWord s := ⟨_, rfl⟩
  rw [← hr]
  cbv
  repeat' first | with_reducible rfl | with_reducible refine And.intro ?_ ?_ | ((with_reducible intro hcc); first | (cases hcc; done) | skip) | ((with_reducible first | show goC _ _ _ _ _ _ _ _ | show goOps _ _ _ _ _ | show goD _ _ _ _ _ _); cbv) | ((with_reducible show okWr _ _ = _); rfl) | ((with_reducible first | refine hA.fin_pl _ _ _ ?_ | refine hA.slen _ _ _ _ _ fun z hz hb => ?_ | refine hA.six _ _ _ fun z6 c hz6 hc hc2 => ?_ | refine hA.gb0 true _ ?_ | refine hA.gb0 false _ ?_ | refine hA.gb _ _ fun vb hvb => ?_); cbv) | ((with_reducible first | refine hA.sapp _ _ _ ⟨?_, fun sl hsl => ?_⟩); rotate_left; cbv) | (simp only [hA.lits]; cbv)
  all_goals try simp only [hA.ar, inR, n_cast, Int.ofNat_eq_natCast, Option.getD_some, Option.getD_none] at *
  refine hA.loopI (fun n st => ∃ i : Int, 0 ≤ i ∧ n + i = s.length ∧ (∀ j : Nat, j < i → okAt s j = true) ∧ st = ⟨[(3, .int i), (2, .bool false), (0, .str s)], []⟩) s.length _
    (Weak.keep (env' := [(3, .int 0), (2, .bool false), (0, .str s)]) ⟨rfl, rfl, rfl, trivial⟩) ⟨0, by omega, by omega, fun j hj => by omega, rfl⟩ ?_
  rintro n st K ⟨i, h0, h1, h2, rfl⟩ hK
  by_cases hin : i < s.length
  · obtain ⟨cN, hcN⟩ : ∃ cN, cN = (s.getD i.toNat 0).toNat := ⟨_, rfl⟩
    have hch : chAt s i.toNat = (cN : Int) := by rw [chAt, hcN]
    have e102 := ok192 (cN : Int)
    have e103 := ok193 (cN : Int)
    obtain ⟨bl, hbl⟩ : ∃ b, b = isLet (cN : Int) := ⟨_, rfl⟩
    obtain ⟨bd, hbd⟩ : ∃ b, b = isDig (cN : Int) := ⟨_, rfl⟩
    rw [← hbl] at e102
    rw [← hbd] at e103
    obtain ⟨o, ho⟩ : ∃ o, o = okAt s i.toNat := ⟨_, rfl⟩
    have ho2 : o = (bl || (decide (i ≠ 0) && (bd || decide ((cN : Int) = 95)))) := by
      rw [ho, okAt, hch, ← hbl, ← hbd]
      have : decide (i.toNat ≠ 0) = decide (i ≠ 0) := by rw [decide_eq_decide]; omega
      rw [this]
    have f1 : o = false → r = false := fun e => by
      rw [hr, isWord, decide_eq_false_iff_not]
      intro ⟨_, q⟩
      have := q i.toNat (by omega)
      rw [← ho, e] at this
      cases this
    have f2 : o = true → ∀ s1, Weak (hpF []) s1 ⟨[(3, .int (i + 1)), (2, .bool false), (0, .str s)], []⟩ → K s1 := fun e s1 hw => by
      refine hK s1 (n - 1) _ (by omega) hw ⟨i + 1, by omega, by omega, fun j hj => ?_, rfl⟩
      by_cases hji : (j : Int) < i
      · exact h2 j hji
      · have : j = i.toNat := by omega
        rw [this, ← ho]; exact e
    clear hK h2 hr ho hbl hbd hch
    cbv
    repeat' first | with_reducible rfl | with_reducible refine And.intro ?_ ?_ | ((with_reducible intro hcc); first | (cases hcc; done) | skip) | ((with_reducible first | show goC _ _ _ _ _ _ _ _ | show goOps _ _ _ _ _ | show goD _ _ _ _ _ _); cbv) | ((with_reducible show okWr _ _ = _); rfl) | ((with_reducible first | refine callK_f hA hP e102 ?_ ?_ ?_ | refine callK_f hA hP e103 ?_ ?_ ?_); exact rfl; exact rfl; cbv) | ((with_reducible refine hA.six _ _ _ fun z6 c hz6 hc hc2 => ?_); (have e6 : cN = c := (by rw [hc, hcN])); subst e6; cbv) | ((with_reducible first | refine hA.fin_pl _ _ _ ?_ | refine hA.slen _ _ _ _ _ fun z hz hb => ?_ | refine hA.six _ _ _ fun z6 c hz6 hc hc2 => ?_ | refine hA.gb0 true _ ?_ | refine hA.gb0 false _ ?_ | refine hA.gb _ _ fun vb hvb => ?_); cbv) | ((with_reducible first | refine hA.sapp _ _ _ ⟨?_, fun sl hsl => ?_⟩); rotate_left; cbv) | (simp only [hA.lits]; cbv)
    all_goals try simp only [hA.ar, inR, n_cast, Int.ofNat_eq_natCast, Option.getD_some, Option.getD_none] at *
    all_goals first
      | omega
      | (refine f2 ?_ _ (Weak.keep ⟨rfl, rfl, rfl, trivial⟩); clear f2 f1 hcN hc; grind; done)
      | (rw [f1 (by clear f2 f1 hcN hc; grind)]; done)
      | (clear f2 f1 hcN hc; grind; done)
      | (clear f2 f1 hcN; simp at *; omega)
      | (trace_state; fail)
  · have hr2 : r = decide (0 < s.length) := by
      rw [hr, isWord, decide_eq_decide]
      exact ⟨fun q => q.1, fun q => ⟨q, fun j hj => h2 j (by omega)⟩⟩
    clear hr hK h2
    cbv
    repeat' first | with_reducible rfl | with_reducible refine And.intro ?_ ?_ | ((with_reducible intro hcc); first | (cases hcc; done) | skip) | ((with_reducible first | show goC _ _ _ _ _ _ _ _ | show goOps _ _ _ _ _ | show goD _ _ _ _ _ _); cbv) | ((with_reducible show okWr _ _ = _); rfl) | (exfalso; simp only [hA.lt, hA.sub, decide_eq_true_eq, decide_eq_false_iff_not, n_cast] at *; omega) | ((with_reducible first | refine hA.fin_pl _ _ _ ?_ | refine hA.slen _ _ _ _ _ fun z hz hb => ?_ | refine hA.six _ _ _ fun z6 c hz6 hc hc2 => ?_ | refine hA.gb0 true _ ?_ | refine hA.gb0 false _ ?_ | refine hA.gb _ _ fun vb hvb => ?_); cbv) | ((with_reducible first | refine hA.sapp _ _ _ ⟨?_, fun sl hsl => ?_⟩); rotate_left; cbv) | (simp only [hA.lits]; cbv)
    all_goals try simp only [hA.ar, inR, n_cast, Int.ofNat_eq_natCast, Option.getD_some, Option.getD_none] at *
    all_goals first
      | (rw [hr2]; congr 3; rw [decide_eq_decide]; omega)
      | omega
      | (trace_state; fail))
theorem ok115 (s : List UInt8) : Plain Try.prog 115 [.str s] (.bool (nameB s)) := okOf mixed p115 fun A P hA hP => (by
  obtain ⟨w, hw⟩ : ∃ w, w = isWord s := ⟨_, rfl⟩
  obtain ⟨k, hk⟩ : ∃ k, k = keyB s := ⟨_, rfl⟩
  have h87 := ok163 s
  have h88 := ok164 s
  have hn : nameB s = (w && (decide (s.length ≤ 64) && !k)) := by rw [hw, hk]; rfl
  rw [hn]
  rw [← hw] at h87
  rw [← hk] at h88
  obtain ⟨n, hn⟩ : ∃ n, n = s.length := ⟨_, rfl⟩
  rw [← hn]
  clear hw hk
  cbv
  repeat' first | with_reducible rfl | with_reducible refine And.intro ?_ ?_ | ((with_reducible intro hcc); first | (cases hcc; done) | skip) | ((with_reducible first | show goC _ _ _ _ _ _ _ _ | show goOps _ _ _ _ _ | show goD _ _ _ _ _ _); cbv) | ((with_reducible show okWr _ _ = _); rfl) | ((with_reducible first | refine callK_f hA hP h87 ?_ ?_ ?_ | refine callK_f hA hP h88 ?_ ?_ ?_); exact rfl; exact rfl; cbv) | ((with_reducible first | refine hA.fin_pl _ _ _ ?_ | refine hA.slen _ _ _ _ _ fun z hz hb => ?_ | refine hA.gb0 true _ ?_ | refine hA.gb0 false _ ?_ | refine hA.gb _ _ fun vb hvb => ?_); cbv) | (simp only [hA.lits]; cbv)
  all_goals try simp only [hA.ar, inR, n_cast, Int.ofNat_eq_natCast, Option.getD_some, Option.getD_none] at *
  all_goals first
    | omega
    | (clear h87 h88; grind; done)
    | (clear h87 h88; simp at *; grind; done)
    | (trace_state; fail))
end Go.Proofs.Ytfplalbognalkaa.Ab
/- Names: valid, by the program. -/
namespace Go.Proofs.Ytfplalbognalkaa.Ab
open Go
theorem nameB_false (s : List UInt8) : (s.length < 1 → nameB s = false) ∧ (64 < s.length → nameB s = false) ∧ (1 ≤ s.length → isLet (chAt s 0) = false → nameB s = false) ∧ (keyB s = true → nameB s = false) ∧
    (∀ j, j < s.length → isLet (chAt s j) = false → isDig (chAt s j) = false → chAt s j ≠ 95 → nameB s = false) ∧
    (1 ≤ s.length → s.length ≤ 64 → isLet (chAt s 0) = true → keyB s = false → (∀ j, j < s.length → (isLet (chAt s j) || (isDig (chAt s j) || decide (chAt s j = 95))) = true) → nameB s = true) := by
  have hw : ∀ j, j < s.length → okAt s j = false → isWord s = false := fun j hj e => by
    rw [isWord, decide_eq_false_iff_not]
    intro ⟨_, q⟩
    rw [q j hj] at e; cases e
  refine ⟨fun h => ?_, fun h => ?_, fun h e => ?_, fun h => ?_, fun j hj e1 e2 e3 => ?_, fun h1 h2 e1 e2 q => ?_⟩
  · have : isWord s = false := by rw [isWord, decide_eq_false_iff_not]; intro ⟨q, _⟩; omega
    simp [nameB, this]
  · simp [nameB, show ¬ s.length ≤ 64 by omega]
  · simp [nameB, hw 0 (by omega) (by simp [okAt, e])]
  · simp [nameB, h]
  · simp [nameB, hw j hj (by simp [okAt, e1, e2, e3])]
  · have : isWord s = true := by
      rw [isWord, decide_eq_true_eq]
      refine ⟨by omega, fun j hj => ?_⟩
      have := q j hj
      by_cases h0 : j = 0
      · subst h0; simp [okAt, e1]
      · simpa [okAt, h0] using this
    simp [nameB, this, h2, e2]
set_option maxRecDepth 100000 in
set_option maxHeartbeats 1000000 in
theorem ok119 (s : List UInt8) : Plain Try.prog 119 [.str s] (.bool (nameB s)) := okOf mixed p119 fun A P hA hP => (by
  obtain ⟨g1, g2, g3, g4, g5, g6⟩ := nameB_false s
  obtain ⟨r, hr⟩ : ∃ r, r = nameB s := ⟨_, rfl⟩
  rw [← hr] at g1 g2 g3 g4 g5 g6 ⊢
  obtain ⟨c0, hc0⟩ : ∃ c, c = (s.getD 0 0).toNat := ⟨_, rfl⟩
  have hch0 : chAt s 0 = (c0 : Int) := by rw [chAt, hc0]
  rw [hch0] at g3 g6
  obtain ⟨b0, hb0⟩ : ∃ b, b = isLet (c0 : Int) := ⟨_, rfl⟩
  have e90 := ok166 (c0 : Int)
  rw [← hb0] at g3 g6 e90
  have e91 := ok167 s
  obtain ⟨kb, hkb⟩ : ∃ b, b = keyB s := ⟨_, rfl⟩
  rw [← hkb] at g4 g6 e91
  clear hr hb0 hkb hch0
  cbv
  repeat' first | with_reducible rfl | with_reducible refine And.intro ?_ ?_ | ((with_reducible intro hcc); first | (cases hcc; done) | skip) | ((with_reducible first | show goC _ _ _ _ _ _ _ _ | show goOps _ _ _ _ _ | show goD _ _ _ _ _ _); cbv) | ((with_reducible show okWr _ _ = _); rfl) | ((with_reducible first | refine callK_f hA hP e90 ?_ ?_ ?_ | refine callK_f hA hP e91 ?_ ?_ ?_); exact rfl; exact rfl; cbv) | ((with_reducible refine hA.six _ _ _ fun z6 c hz6 hc hc2 => ?_); (have e6 : c0 = c := (by rw [hc, hc0]; rfl)); subst e6; cbv) | ((with_reducible first | refine hA.fin_pl _ _ _ ?_ | refine hA.slen _ _ _ _ _ fun z hz hb => ?_ | refine hA.six _ _ _ fun z6 c hz6 hc hc2 => ?_ | refine hA.gb0 true _ ?_ | refine hA.gb0 false _ ?_ | refine hA.gb _ _ fun vb hvb => ?_); cbv) | ((with_reducible first | refine hA.sapp _ _ _ ⟨?_, fun sl hsl => ?_⟩); rotate_left; cbv) | (simp only [hA.lits]; cbv)
  all_goals try simp only [hA.ar, inR, n_cast, Int.ofNat_eq_natCast, Option.getD_some, Option.getD_none] at *
  all_goals try (first
    | omega
    | (clear g1 g2 g3 g4 g5 g6 hc0; simp at *; omega)
    | (clear g1 g2 g3 g4 g5 g6; simp at *; grind; done))
  · have hfalse : r = false := by
      have q1 : (s.length : Int) < 1 ∨ 64 < (s.length : Int) ∨ (1 ≤ (s.length : Int) ∧ b0 = false) ∨ kb = true := by
        clear g1 g2 g3 g4 g5 g6
        simp at *
        grind
      rcases q1 with q | q | ⟨q, q'⟩ | q
      · exact g1 (by omega)
      · exact g2 (by omega)
      · exact g3 (by omega) q'
      · exact g4 q
    rw [hfalse]
  · have q1 : 1 ≤ (s.length : Int) ∧ (s.length : Int) ≤ 64 ∧ b0 = true ∧ kb = false := by
      clear g1 g2 g3 g4 g5 g6
      simp at *
      grind
    obtain ⟨q1, q2, q3, q4⟩ := q1
    refine hA.loopI (fun n st => ∃ i zz : Int, 0 ≤ i ∧ zz = s.length ∧ n + i = zz ∧ (∀ j : Nat, j < i → (isLet (chAt s j) || (isDig (chAt s j) || decide (chAt s j = 95))) = true) ∧ st = ⟨[(24, .int i), (23, .int zz), (2, .bool false), (0, .str s)], []⟩) s.length _
      (Weak.keep (env' := [(24, .int 0), (23, .int z), (2, .bool false), (0, .str s)]) ⟨rfl, rfl, rfl, rfl, trivial⟩) ⟨0, z, by omega, by omega, by omega, fun j hj => by omega, rfl⟩ ?_
    rintro n st K ⟨i, zz, h0, hz, h1, h2, rfl⟩ hK
    by_cases hin : i < zz
    · obtain ⟨cN, hcN⟩ : ∃ cN, cN = (s.getD i.toNat 0).toNat := ⟨_, rfl⟩
      have hch : chAt s i.toNat = (cN : Int) := by rw [chAt, hcN]
      have f90 := ok166 (cN : Int)
      have f92 := ok168 (cN : Int)
      have k5 := g5 i.toNat (by omega)
      rw [hch] at k5
      have k6 : (isLet (cN : Int) || (isDig (cN : Int) || decide ((cN : Int) = 95))) = true → ∀ s1, Weak (hpF []) s1 ⟨[(24, .int (i + 1)), (23, .int zz), (2, .bool false), (0, .str s)], []⟩ → K s1 := fun e s1 hw => by
        refine hK s1 (n - 1) _ (by omega) hw ⟨i + 1, zz, by omega, hz, by omega, fun j hj => ?_, rfl⟩
        by_cases hji : (j : Int) < i
        · exact h2 j hji
        · have : j = i.toNat := by omega
          rw [this, hch]; exact e
      obtain ⟨bl, hbl⟩ : ∃ b, b = isLet (cN : Int) := ⟨_, rfl⟩
      obtain ⟨bd, hbd⟩ : ∃ b, b = isDig (cN : Int) := ⟨_, rfl⟩
      rw [← hbl] at f90 k5 k6
      rw [← hbd] at f92 k5 k6
      clear hK h2 hbl hbd hch g1 g2 g3 g4 g5 g6 e90 e91 hvb q3 q4
      cbv
      repeat' first | with_reducible rfl | with_reducible refine And.intro ?_ ?_ | ((with_reducible intro hcc); first | (cases hcc; done) | skip) | ((with_reducible first | show goC _ _ _ _ _ _ _ _ | show goOps _ _ _ _ _ | show goD _ _ _ _ _ _); cbv) | ((with_reducible show okWr _ _ = _); rfl) | ((with_reducible first | refine callK_f hA hP f90 ?_ ?_ ?_ | refine callK_f hA hP f92 ?_ ?_ ?_); exact rfl; exact rfl; cbv) | ((with_reducible refine hA.six _ _ _ fun z6 c hz6 hc hc2 => ?_); (have e6 : cN = c := (by rw [hc, hcN])); subst e6; cbv) | ((with_reducible first | refine hA.fin_pl _ _ _ ?_ | refine hA.slen _ _ _ _ _ fun z hz hb => ?_ | refine hA.six _ _ _ fun z6 c hz6 hc hc2 => ?_ | refine hA.gb0 true _ ?_ | refine hA.gb0 false _ ?_ | refine hA.gb _ _ fun vb hvb => ?_); cbv) | ((with_reducible first | refine hA.sapp _ _ _ ⟨?_, fun sl hsl => ?_⟩); rotate_left; cbv) | (simp only [hA.lits]; cbv)
      all_goals try simp only [hA.ar, inR, n_cast, Int.ofNat_eq_natCast, Option.getD_some, Option.getD_none] at *
      all_goals first
        | omega
        | (refine k6 ?_ _ (Weak.keep ⟨rfl, rfl, rfl, rfl, trivial⟩); clear k6 k5 hcN hc; simp at *; grind; done)
        | (rw [k5 (by clear k6 k5 hcN; grind) (by clear k6 k5 hcN; grind) (by clear k6 k5 hcN; grind)]; done)
        | (clear k6 k5 hcN; simp at *; omega)
        | (clear k6 k5 hcN; grind; done)
        | (trace_state; fail)
    · have hr2 : r = true := g6 (by omega) (by omega) q3 q4 fun j hj => h2 j (by omega)
      clear hK h2 g1 g2 g3 g4 g5 g6
      cbv
      repeat' first | with_reducible rfl | with_reducible refine And.intro ?_ ?_ | ((with_reducible intro hcc); first | (cases hcc; done) | skip) | ((with_reducible first | show goC _ _ _ _ _ _ _ _ | show goOps _ _ _ _ _ | show goD _ _ _ _ _ _); cbv) | ((with_reducible show okWr _ _ = _); rfl) | (exfalso; simp only [hA.lt, hA.sub, decide_eq_true_eq, decide_eq_false_iff_not, n_cast] at *; omega) | ((with_reducible first | refine hA.fin_pl _ _ _ ?_ | refine hA.slen _ _ _ _ _ fun z hz hb => ?_ | refine hA.six _ _ _ fun z6 c hz6 hc hc2 => ?_ | refine hA.gb0 true _ ?_ | refine hA.gb0 false _ ?_ | refine hA.gb _ _ fun vb hvb => ?_); cbv) | ((with_reducible first | refine hA.sapp _ _ _ ⟨?_, fun sl hsl => ?_⟩); rotate_left; cbv) | (simp only [hA.lits]; cbv)
      all_goals try simp only [hA.ar, inR, n_cast, Int.ofNat_eq_natCast, Option.getD_some, Option.getD_none] at *
      all_goals first
        | (rw [hr2]; done)
        | omega
        | (trace_state; fail))
end Go.Proofs.Ytfplalbognalkaa.Ab
/- Tables: valid, by the specification. -/
namespace Go.Proofs.Ytfplalbognalkaa.Ab
open Go
def fidxN : List Tb → List UInt8 → Int → Int
  | [], _, _ => -1
  | t :: r, n, k => if t.1 = n then k else fidxN r n (k + 1)
def fidx (ts : List Tb) (n : List UInt8) : Int := fidxN ts n 0
theorem fidx_at : ∀ (l : List Tb) (m : Nat) (t : Tb) (k : Int), l[m]? = some t → k ≤ fidxN l t.1 k ∧ (fidxN l t.1 k = k + m ↔ ∀ j t', j < m → l[j]? = some t' → t'.1 ≠ t.1)
  | [], m, t, k, h => by simp at h
  | a :: l, 0, t, k, h => by
    simp at h; subst h
    simp [fidxN]
  | a :: l, m + 1, t, k, h => by
    obtain ⟨h1, h2⟩ := fidx_at l m t (k + 1) (by simpa using h)
    by_cases e : a.1 = t.1
    · have e2 : fidxN (a :: l) t.1 k = k := if_pos e
      rw [e2]
      refine ⟨Int.le_refl _, ⟨fun q => by omega, fun q => absurd e (q 0 a (by omega) rfl)⟩⟩
    · have e2 : fidxN (a :: l) t.1 k = fidxN l t.1 (k + 1) := if_neg e
      rw [e2]
      refine ⟨by omega, ?_⟩
      rw [show k + ((m + 1 : Nat) : Int) = k + 1 + m by omega, h2]
      constructor
      · intro q j t' hj ht
        cases j with
        | zero => simp at ht; subst ht; exact e
        | succ j => exact q j t' (by omega) (by simpa using ht)
      · intro q j t' hj ht
        exact q (j + 1) t' (by omega) (by simpa using ht)
def good (ts : List Tb) (i : Nat) (t : Tb) : Bool := nameB t.1 && (decide (1 ≤ t.2.1 ∧ t.2.1 ≤ 16) && (decide (fidx ts t.1 = i) && t.2.2.all fun r => decide ((r.length : Int) = t.2.1)))
def rlen (t : Tb) : Int := t.2.2.length
theorem rlen_nonneg (t : Tb) : 0 ≤ rlen t := by unfold rlen; omega
def dbOk (ts : List Tb) : Bool := decide (ts.length ≤ 50) && (((List.range ts.length).all fun i => good ts i (ts.getD i ([], 0, []))) && decide (sumC rlen ts ≤ 1000))
theorem dbF (ts : List Tb) : (50 < ts.length → dbOk ts = false) ∧ (∀ i t, ts[i]? = some t → good ts i t = false → dbOk ts = false) ∧
    (ts.length ≤ 50 → (∀ i t, ts[i]? = some t → good ts i t = true) → dbOk ts = decide (sumC rlen ts ≤ 1000)) := by
  refine ⟨fun h => by simp [dbOk, show ¬ ts.length ≤ 50 by omega], fun i t h e => ?_, fun h q => ?_⟩
  · have hi := (List.getElem?_eq_some_iff.1 h).1
    have : ((List.range ts.length).all fun i => good ts i (ts.getD i ([], 0, []))) = false := by
      rw [List.all_eq_false]
      exact ⟨i, by simp [hi], by simp [List.getD, h, e]⟩
    rw [dbOk, this]; simp
  · have : ((List.range ts.length).all fun i => good ts i (ts.getD i ([], 0, []))) = true := by
      rw [List.all_eq_true]
      intro i hi
      simp at hi
      exact q i _ (by simp [List.getD, hi])
    rw [dbOk, this, decide_eq_true h]; simp
theorem sz_rows (ts : List Tb) : sumC rlen ts ≤ cTS ts := by
  have : ∀ l : List Tb, sumC rlen l ≤ sumC cT l := fun l => by
    induction l with
    | nil => exact Int.le_refl _
    | cons t l ih =>
      simp only [sumC]
      have := sumC_nonneg cV_nonneg t.2.2
      have : rlen t ≤ cT t := by unfold rlen cT cSS; omega
      omega
  have := this ts
  unfold cTS; omega
theorem sz_row {ts : List Tb} {t : Tb} (h : t ∈ ts) : cT t ≤ cTS ts := by have := sumC_mem cT_nonneg h; unfold cTS; omega
set_option maxRecDepth 100000 in
theorem ok128 (ts : List Tb) (x : List (List E)) (hx : x = ts.map tbr) (n : List UInt8) : Plain Try.prog 128 [.agg [.e (.sl x)], .str n] (.int (fidx ts n)) := okOf mixed p128 fun A P hA hP => (by
  have hl : x.length = ts.length := by rw [hx]; simp
  obtain ⟨r, hr⟩ : ∃ r, r = fidx ts n := ⟨_, rfl⟩
  rw [← hr]
  cbv
  repeat' first | with_reducible rfl | with_reducible refine And.intro ?_ ?_ | ((with_reducible intro hcc); first | (cases hcc; done) | skip) | ((with_reducible first | show goC _ _ _ _ _ _ _ _ | show goOps _ _ _ _ _ | show goD _ _ _ _ _ _); cbv) | ((with_reducible show okWr _ _ = _); rfl) | ((with_reducible first | refine hA.fin_pl _ _ _ ?_ | refine hA.len _ _ _ _ _ fun z hz hb => ?_ | refine hA.off _ _ _ _ fun b hb => ?_ | refine hA.plus _ _ _ fun b hb => ?_); cbv) | ((with_reducible first | refine hA.sapp _ _ _ ⟨?_, fun sl hsl => ?_⟩); rotate_left; cbv) | (simp only [hA.lits]; cbv)
  all_goals try simp only [hA.ar, inR, n_cast, Int.ofNat_eq_natCast, Option.getD_some, Option.getD_none] at *
  refine hA.loopI (fun m s => ∃ i : Int, 0 ≤ i ∧ m + i = x.length ∧ r = fidxN (ts.drop i.toNat) n i ∧ s = ⟨[(5, .int i), (1, .str n), (2, .ref 0 0), (4, .int 0)], [.box [.e (.sl x)]]⟩) x.length _
    (Weak.keep (env' := [(5, .int 0), (1, .str n), (2, .ref 0 0), (4, .int 0)]) ⟨rfl, rfl, rfl, rfl, trivial⟩) ⟨0, by omega, by omega, by simpa [fidx] using hr, rfl⟩ ?_
  rintro m s K ⟨i, h0, h1, h2, rfl⟩ hK
  by_cases hin : (0 : Int) ≤ i ∧ i < x.length
  · obtain ⟨⟨n1, c1, rs1⟩, e1, q1⟩ := row_at hx hin
    obtain ⟨x1, hx1⟩ : ∃ y, y = rs1.map rsr := ⟨_, rfl⟩
    have e1 : x.getD i.toNat [] = [E.str n1, E.int c1, E.sl x1] := e1.trans (by rw [hx1])
    have h3 : r = if n1 = n then i else fidxN (ts.drop (i.toNat + 1)) n (i + 1) := by
      obtain ⟨a, b⟩ := List.getElem?_eq_some_iff.1 q1
      rw [h2, List.drop_eq_getElem_cons a, b]; rfl
    have e8 : (i + 1).toNat = i.toNat + 1 := by omega
    clear h2 hr
    cbv
    repeat' first | with_reducible rfl | with_reducible refine And.intro ?_ ?_ | ((with_reducible intro hcc); first | (cases hcc; done) | skip) | ((with_reducible first | show goC _ _ _ _ _ _ _ _ | show goOps _ _ _ _ _ | show goD _ _ _ _ _ _); cbv) | ((with_reducible show okWr _ _ = _); rfl) | ((with_reducible refine hA.row x _ _ ⟨hin, fun row hrow => ?_⟩); rw [e1] at hrow; subst hrow; cbv) | ((with_reducible first | refine hA.fin_pl _ _ _ ?_ | refine hA.len _ _ _ _ _ fun z hz hb => ?_ | refine hA.off _ _ _ _ fun b hb => ?_ | refine hA.plus _ _ _ fun b hb => ?_); cbv) | ((with_reducible first | refine hA.sapp _ _ _ ⟨?_, fun sl hsl => ?_⟩); rotate_left; cbv) | (simp only [hA.lits]; cbv)
    all_goals try simp only [hA.ar, inR, n_cast, Int.ofNat_eq_natCast, Option.getD_some, Option.getD_none] at *
    all_goals first
      | omega
      | (rw [h3, if_pos (by simpa using (by assumption : decide (n1 = n) = true))]; done)
      | (refine hK _ (m - 1) _ (by omega) (Weak.keep (env' := [(5, .int (i + 1)), (1, .str n), (2, .ref 0 0), (4, .int 0)]) ⟨rfl, rfl, rfl, rfl, trivial⟩) ⟨i + 1, by omega, by omega, ?_, rfl⟩
         rw [h3, if_neg (by simpa using (by assumption : decide (n1 = n) = false)), e8])
      | (clear hK h3; simp at *; omega)
      | (trace_state; fail)
  · have hd : ts.drop i.toNat = [] := by rw [List.drop_eq_nil_iff]; omega
    rw [hd] at h2
    have h3 : r = -1 := h2
    clear hK h2 hr
    cbv
    repeat' first | with_reducible rfl | with_reducible refine And.intro ?_ ?_ | ((with_reducible intro hcc); first | (cases hcc; done) | skip) | ((with_reducible first | show goC _ _ _ _ _ _ _ _ | show goOps _ _ _ _ _ | show goD _ _ _ _ _ _); cbv) | ((with_reducible show okWr _ _ = _); rfl) | (exfalso; simp only [hA.lt, hA.sub, decide_eq_true_eq, decide_eq_false_iff_not, n_cast] at *; omega) | ((with_reducible first | refine hA.fin_pl _ _ _ ?_ | refine hA.len _ _ _ _ _ fun z hz hb => ?_ | refine hA.off _ _ _ _ fun b hb => ?_ | refine hA.plus _ _ _ fun b hb => ?_); cbv) | ((with_reducible first | refine hA.sapp _ _ _ ⟨?_, fun sl hsl => ?_⟩); rotate_left; cbv) | (simp only [hA.lits]; cbv)
    all_goals try simp only [hA.ar, inR, n_cast, Int.ofNat_eq_natCast, Option.getD_some, Option.getD_none] at *
    all_goals first
      | (rw [h3]; done)
      | omega
      | (trace_state; fail))
theorem good_iff {ts : List Tb} {i : Nat} {n : List UInt8} {c : Int} {rs : List (List (Bool × Int))} : good ts i (n, c, rs) = true ↔ nameB n = true ∧ (1 ≤ c ∧ c ≤ 16) ∧ fidx ts n = i ∧ ∀ r ∈ rs, (r.length : Int) = c := by
  simp [good]
set_option maxRecDepth 100000 in
set_option maxHeartbeats 2000000 in
theorem ok73 (ts : List Tb) (x : List (List E)) (hx : x = ts.map tbr) (hsz : cTS ts ≤ 1048576) : Plain Try.prog 73 [.agg [.e (.sl x)]] (.bool (dbOk ts)) := okOf mixed p73 fun A P hA hP => (by
  have hl : x.length = ts.length := by rw [hx]; simp
  obtain ⟨d1, d2, d3⟩ := dbF ts
  obtain ⟨r, hr⟩ : ∃ r, r = dbOk ts := ⟨_, rfl⟩
  rw [← hr] at d1 d2 d3 ⊢
  clear hr
  cbv
  repeat' first | with_reducible rfl | with_reducible refine And.intro ?_ ?_ | ((with_reducible intro hcc); first | (cases hcc; done) | skip) | ((with_reducible first | show goC _ _ _ _ _ _ _ _ | show goOps _ _ _ _ _ | show goD _ _ _ _ _ _); cbv) | ((with_reducible show okWr _ _ = _); rfl) | ((with_reducible first | refine hA.fin_pl _ _ _ ?_ | refine hA.len _ _ _ _ _ fun z hz hb => ?_ | refine hA.off _ _ _ _ fun b hb => ?_ | refine hA.plus _ _ _ fun b hb => ?_ | refine hA.gb0 true _ ?_ | refine hA.gb0 false _ ?_ | refine hA.gb _ _ fun vb hvb => ?_); cbv) | ((with_reducible first | refine hA.st _ _ _ _ _ ⟨?_, fun ds hds => ?_⟩ | refine hA.sapp _ _ _ ⟨?_, fun sl hsl => ?_⟩); rotate_left; cbv) | (simp only [hA.lits]; cbv)
  all_goals try simp only [hA.ar, inR, n_cast, Int.ofNat_eq_natCast, Option.getD_some, Option.getD_none] at *
  all_goals try (first | (rw [d1 (by simp at *; omega)]; done))
  have h50 : ts.length ≤ 50 := by clear d1 d2 d3; simp at *; omega
  have hrn := sz_rows ts
  refine hA.loopI (fun m s => ∃ i rows : Int, 0 ≤ i ∧ m + i = x.length ∧ 0 ≤ rows ∧ rows + sumC rlen (ts.drop i.toNat) = sumC rlen ts ∧ (∀ (j : Nat) t, (j : Int) < i → ts[j]? = some t → good ts j t = true) ∧
      s = ⟨[(4, .int i), (3, .int rows), (2, .bool false), (1, .ref 0 0)], [.box [.e (.sl x)]]⟩) x.length _
    (Weak.keep (env' := [(4, .int 0), (3, .int 0), (2, .bool false), (1, .ref 0 0)]) ⟨rfl, rfl, rfl, rfl, trivial⟩) ⟨0, 0, by omega, by omega, by omega, by simp, fun j t hj => by omega, rfl⟩ ?_
  rintro m s K ⟨i, rows, h0, h1, h2, h3, h4, rfl⟩ hK
  by_cases hin : (0 : Int) ≤ i ∧ i < x.length
  · obtain ⟨⟨n1, c1, rs1⟩, e1, q1⟩ := row_at hx hin
    obtain ⟨x1, hx1⟩ : ∃ y, y = rs1.map rsr := ⟨_, rfl⟩
    have e1 : x.getD i.toNat [] = [E.str n1, E.int c1, E.sl x1] := e1.trans (by rw [hx1])
    have hl1 : x1.length = rs1.length := by rw [hx1]; simp
    rw [sumC_drop q1] at h3
    have hS := sumC_nonneg rlen_nonneg (ts.drop (i.toNat + 1))
    have hrl : rlen (n1, c1, rs1) = x1.length := by rw [hl1]; rfl
    have hd := d2 i.toNat _ q1
    have gi := good_iff (ts := ts) (i := i.toNat) (n := n1) (c := c1) (rs := rs1)
    obtain ⟨g, hg⟩ : ∃ g, g = good ts i.toNat (n1, c1, rs1) := ⟨_, rfl⟩
    rw [← hg] at hd gi
    obtain ⟨nb, hnb⟩ : ∃ b, b = nameB n1 := ⟨_, rfl⟩
    obtain ⟨fi, hfi⟩ : ∃ f, f = fidx ts n1 := ⟨_, rfl⟩
    rw [← hnb, ← hfi] at gi
    have h66 := ok115 n1
    have h67 := ok128 ts x hx n1
    rw [← hnb] at h66
    rw [← hfi] at h67
    have e8 : (i + 1).toNat = i.toNat + 1 := by omega
    have hK2 : (g = true) → ∀ w : Int, w = rows + x1.length → ∀ s1, Weak (hpF []) s1 ⟨[(4, .int (i + 1)), (3, .int w), (2, .bool false), (1, .ref 0 0)], [.box [.e (.sl x)]]⟩ → K s1 := fun e w hww s1 hw => by
      refine hK s1 (m - 1) _ (by omega) hw ⟨i + 1, _, by omega, by omega, by omega, by rw [e8]; omega, fun j t hj ht => ?_, rfl⟩
      by_cases hji : (j : Int) < i
      · exact h4 j t hji ht
      · have : j = i.toNat := by omega
        subst this
        rw [q1] at ht
        cases ht
        rw [← hg]; exact e
    clear hK h4 hnb hfi hg d1 d2 d3
    cbv
    repeat' first | with_reducible rfl | with_reducible refine And.intro ?_ ?_ | ((with_reducible intro hcc); first | (cases hcc; done) | skip) | ((with_reducible first | show goC _ _ _ _ _ _ _ _ | show goOps _ _ _ _ _ | show goD _ _ _ _ _ _); cbv) | ((with_reducible show okWr _ _ = _); rfl) | ((with_reducible first | refine callK_f hA hP h66 ?_ ?_ ?_ | refine callK_f hA hP h67 ?_ ?_ ?_); exact rfl; exact rfl; cbv) | ((with_reducible refine hA.row x _ _ ⟨hin, fun row hrow => ?_⟩); rw [e1] at hrow; subst hrow; cbv) | ((with_reducible first | refine hA.fin_pl _ _ _ ?_ | refine hA.len _ _ _ _ _ fun z hz hb => ?_ | refine hA.off _ _ _ _ fun b hb => ?_ | refine hA.plus _ _ _ fun b hb => ?_ | refine hA.gb0 true _ ?_ | refine hA.gb0 false _ ?_ | refine hA.gb _ _ fun vb hvb => ?_); cbv) | ((with_reducible first | refine hA.st _ _ _ _ _ ⟨?_, fun ds hds => ?_⟩ | refine hA.sapp _ _ _ ⟨?_, fun sl hsl => ?_⟩); rotate_left; cbv) | (simp only [hA.lits]; cbv)
    all_goals try simp only [hA.ar, inR, n_cast, Int.ofNat_eq_natCast, Option.getD_some, Option.getD_none] at *
    all_goals try (first
      | omega
      | (clear hK2 hd gi h66 h67; simp at *; omega)
      | (clear hK2 hd gi h66 h67; grind; done))
    · have hf : g = false := by
        rw [Bool.eq_false_iff]
        intro q
        obtain ⟨a1, a2, a3, _⟩ := gi.1 q
        clear hK2 hd gi h66 h67
        simp at *
        grind
      rw [hd hf]
    · have hpre : g = true ↔ ∀ r ∈ rs1, (r.length : Int) = c1 := by
        rw [gi]
        have : nb = true ∧ (1 ≤ c1 ∧ c1 ≤ 16) ∧ fi = ↑i.toNat := by
          clear hK2 hd gi h66 h67
          simp at *
          grind
        exact ⟨fun q => q.2.2.2, fun q => ⟨this.1, this.2.1, this.2.2, q⟩⟩
      clear gi h66 h67
      refine hA.loopI (fun mm s => ∃ jj : Int, 0 ≤ jj ∧ mm + jj = x1.length ∧ (∀ (k : Nat) r', (k : Int) < jj → rs1[k]? = some r' → (r'.length : Int) = c1) ∧
          s = ⟨[(6, .int jj), (5, .ref 1 0), (4, .int i), (3, .int rows), (2, .bool false), (1, .ref 0 0)], [.box [.e (.sl x)], .box [.str n1, .int c1, .e (.sl x1)]]⟩) x1.length _
        (Weak.keep (env' := [(6, .int 0), (5, .ref 1 0), (4, .int i), (3, .int rows), (2, .bool false), (1, .ref 0 0)]) ⟨rfl, rfl, rfl, rfl, rfl, rfl, trivial⟩) ⟨0, by omega, by omega, fun k r' hk => by omega, rfl⟩ ?_
      rintro mm s K3 ⟨jj, j0, j1, j2, rfl⟩ hK3
      by_cases hjn : (0 : Int) ≤ jj ∧ jj < x1.length
      · obtain ⟨r1, e2, q2⟩ := row_at hx1 hjn
        obtain ⟨y1, hy1⟩ : ∃ y, y = r1.map vr := ⟨_, rfl⟩
        have e2 : x1.getD jj.toNat [] = [E.sl y1] := e2.trans (by rw [hy1])
        have hly : y1.length = r1.length := by rw [hy1]; simp
        have k1 : ¬ (r1.length : Int) = c1 → r = false := fun q => hd (by
          rw [Bool.eq_false_iff]
          intro q'
          exact q (hpre.1 q' r1 (List.mem_of_getElem? q2)))
        have k2 : (r1.length : Int) = c1 → ∀ s1, Weak (hpF []) s1 ⟨[(6, .int (jj + 1)), (5, .ref 1 0), (4, .int i), (3, .int rows), (2, .bool false), (1, .ref 0 0)], [.box [.e (.sl x)], .box [.str n1, .int c1, .e (.sl x1)]]⟩ → K3 s1 := fun q s1 hw => by
          refine hK3 s1 (mm - 1) _ (by omega) hw ⟨jj + 1, by omega, by omega, fun k r' hk hr' => ?_, rfl⟩
          by_cases hkj : (k : Int) < jj
          · exact j2 k r' hkj hr'
          · have : k = jj.toNat := by omega
            subst this
            rw [q2] at hr'
            cases hr'
            exact q
        clear hK3 hK2 hd hpre j2
        cbv
        repeat' first | with_reducible rfl | with_reducible refine And.intro ?_ ?_ | ((with_reducible intro hcc); first | (cases hcc; done) | skip) | ((with_reducible first | show goC _ _ _ _ _ _ _ _ | show goOps _ _ _ _ _ | show goD _ _ _ _ _ _); cbv) | ((with_reducible show okWr _ _ = _); rfl) | ((with_reducible refine hA.row x1 _ _ ⟨hjn, fun row hrow => ?_⟩); rw [e2] at hrow; subst hrow; cbv) | ((with_reducible first | refine hA.fin_pl _ _ _ ?_ | refine hA.len _ _ _ _ _ fun z hz hb => ?_ | refine hA.off _ _ _ _ fun b hb => ?_ | refine hA.plus _ _ _ fun b hb => ?_ | refine hA.gb0 true _ ?_ | refine hA.gb0 false _ ?_ | refine hA.gb _ _ fun vb hvb => ?_); cbv) | ((with_reducible first | refine hA.st _ _ _ _ _ ⟨?_, fun ds hds => ?_⟩ | refine hA.sapp _ _ _ ⟨?_, fun sl hsl => ?_⟩); rotate_left; cbv) | (simp only [hA.lits]; cbv)
        all_goals try simp only [hA.ar, inR, n_cast, Int.ofNat_eq_natCast, Option.getD_some, Option.getD_none] at *
        all_goals first
          | omega
          | (rw [k1 (by clear k1 k2 hx hx1 e1 e2 hy1; grind)]; done)
          | (exact k2 (by clear k1 k2 hx hx1 e1 e2 hy1; grind) _ (Weak.keep ⟨rfl, rfl, rfl, rfl, rfl, rfl, trivial⟩))
          | (clear k1 k2; simp at *; omega)
          | (clear k1 k2; grind; done)
          | (trace_state; fail)
      · have hgt : g = true := hpre.2 fun r' hr' => by
          obtain ⟨k, hk, e⟩ := List.getElem_of_mem hr'
          exact j2 k r' (by omega) (by rw [← e]; simp [hk])
        have hK4 := hK2 hgt
        clear hK3 hK2 hd hpre j2
        cbv
        repeat' first | with_reducible rfl | with_reducible refine And.intro ?_ ?_ | ((with_reducible intro hcc); first | (cases hcc; done) | skip) | ((with_reducible first | show goC _ _ _ _ _ _ _ _ | show goOps _ _ _ _ _ | show goD _ _ _ _ _ _); cbv) | ((with_reducible show okWr _ _ = _); rfl) | (exfalso; simp only [hA.lt, hA.sub, decide_eq_true_eq, decide_eq_false_iff_not, n_cast] at *; omega) | ((with_reducible first | refine hA.fin_pl _ _ _ ?_ | refine hA.len _ _ _ _ _ fun z hz hb => ?_ | refine hA.off _ _ _ _ fun b hb => ?_ | refine hA.plus _ _ _ fun b hb => ?_ | refine hA.gb0 true _ ?_ | refine hA.gb0 false _ ?_ | refine hA.gb _ _ fun vb hvb => ?_); cbv) | ((with_reducible first | refine hA.st _ _ _ _ _ ⟨?_, fun ds hds => ?_⟩ | refine hA.sapp _ _ _ ⟨?_, fun sl hsl => ?_⟩); rotate_left; cbv) | (simp only [hA.lits]; cbv)
        all_goals try simp only [hA.ar, inR, n_cast, Int.ofNat_eq_natCast, Option.getD_some, Option.getD_none] at *
        all_goals first
          | omega
          | (refine hK4 _ ?_ _ (Weak.ren (l0 := []) [0] (fun t => [(4, .int (i + 1)), (3, .int _), (2, .bool false), (1, .ref (t 0) 0)]) (fun t => [.box [.e (.sl x)]]) rfl ⟨.inl rfl, .inl rfl, .inl rfl, .inl rfl, trivial⟩ ⟨rfl, trivial⟩ ⟨fun t => rfl, rfl, fun t => rfl, by simp [O.lt, lts, D.lt]⟩)
             omega)
          | (clear hK4; simp at *; omega)
          | (trace_state; fail)
  · have hd0 : ts.drop i.toNat = [] := by rw [List.drop_eq_nil_iff]; omega
    rw [hd0] at h3
    have h3 : rows + 0 = sumC rlen ts := h3
    have hr3 := d3 h50 fun j t ht => h4 j t (by have := (List.getElem?_eq_some_iff.1 ht).1; omega) ht
    clear hK h4 d1 d2 d3
    cbv
    repeat' first | with_reducible rfl | with_reducible refine And.intro ?_ ?_ | ((with_reducible intro hcc); first | (cases hcc; done) | skip) | ((with_reducible first | show goC _ _ _ _ _ _ _ _ | show goOps _ _ _ _ _ | show goD _ _ _ _ _ _); cbv) | ((with_reducible show okWr _ _ = _); rfl) | (exfalso; simp only [hA.lt, hA.sub, decide_eq_true_eq, decide_eq_false_iff_not, n_cast] at *; omega) | ((with_reducible first | refine hA.fin_pl _ _ _ ?_ | refine hA.len _ _ _ _ _ fun z hz hb => ?_ | refine hA.off _ _ _ _ fun b hb => ?_ | refine hA.plus _ _ _ fun b hb => ?_ | refine hA.gb0 true _ ?_ | refine hA.gb0 false _ ?_ | refine hA.gb _ _ fun vb hvb => ?_); cbv) | ((with_reducible first | refine hA.st _ _ _ _ _ ⟨?_, fun ds hds => ?_⟩ | refine hA.sapp _ _ _ ⟨?_, fun sl hsl => ?_⟩); rotate_left; cbv) | (simp only [hA.lits]; cbv)
    all_goals try simp only [hA.ar, inR, n_cast, Int.ofNat_eq_natCast, Option.getD_some, Option.getD_none] at *
    all_goals first
      | (rw [hr3, ← h3, Int.add_zero]; done)
      | omega
      | (trace_state; fail))
end Go.Proofs.Ytfplalbognalkaa.Ab
/- Tables: valid, by the program. -/
namespace Go.Proofs.Ytfplalbognalkaa.Ab
open Go
theorem mlook_mset (l : List (List UInt8 × E)) (k : List UInt8) (v : E) (n : List UInt8) : mlook (mset l k v) n = if k = n then some v else mlook l n := by
  induction l with
  | nil => rfl
  | cons p l ih =>
    simp only [mset]
    by_cases h : p.1 = k
    · rw [if_pos h]
      simp only [mlook]
      by_cases h2 : k = n
      · rw [if_pos h2, if_pos h2]
      · rw [if_neg h2, if_neg h2, if_neg (by rw [h]; exact h2)]
    · rw [if_neg h]
      simp only [mlook]
      by_cases h3 : p.1 = n
      · rw [if_pos h3, if_pos h3, if_neg (fun e => h (h3.trans e.symm))]
      · rw [if_neg h3, if_neg h3, ih]
set_option maxRecDepth 100000 in
set_option maxHeartbeats 2000000 in
theorem ok135 (ts : List Tb) (x : List (List E)) (hx : x = ts.map tbr) (hsz : cTS ts ≤ 1048576) : Plain Try.prog 135 [.agg [.e (.sl x)]] (.bool (dbOk ts)) := okOf mixed p135 fun A P hA hP => (by
  have hl : x.length = ts.length := by rw [hx]; simp
  obtain ⟨d1, d2, d3⟩ := dbF ts
  obtain ⟨r, hr⟩ : ∃ r, r = dbOk ts := ⟨_, rfl⟩
  rw [← hr] at d1 d2 d3 ⊢
  clear hr
  cbv
  repeat' first | with_reducible rfl | with_reducible refine And.intro ?_ ?_ | ((with_reducible intro hcc); first | (cases hcc; done) | skip) | ((with_reducible first | show goC _ _ _ _ _ _ _ _ | show goOps _ _ _ _ _ | show goD _ _ _ _ _ _); cbv) | ((with_reducible show okWr _ _ = _); rfl) | ((with_reducible first | refine hA.fin_pl _ _ _ ?_ | refine hA.len _ _ _ _ _ fun z hz hb => ?_ | refine hA.off _ _ _ _ fun b hb => ?_ | refine hA.plus _ _ _ fun b hb => ?_ | refine hA.gb0 true _ ?_ | refine hA.gb0 false _ ?_ | refine hA.gb _ _ fun vb hvb => ?_ | refine hA.mset _ _ _ _ fun ml hml => ?_); cbv) | ((with_reducible first | refine hA.st _ _ _ _ _ ⟨?_, fun ds hds => ?_⟩ | refine hA.sapp _ _ _ ⟨?_, fun sl hsl => ?_⟩); rotate_left; cbv) | ((with_reducible refine hA.mget _ _ _ _ ⟨fun mv hmv => ?_, fun hmv => ?_⟩) <;> cbv) | (simp only [hA.lits]; cbv)
  all_goals try simp only [hA.ar, inR, n_cast, Int.ofNat_eq_natCast, Option.getD_some, Option.getD_none] at *
  all_goals try (first | (rw [d1 (by simp at *; omega)]; done))
  have h50 : ts.length ≤ 50 := by clear d1 d2 d3; simp at *; omega
  have hrn := sz_rows ts
  refine hA.loopI (fun m s => ∃ (i rows zz : Int) (ml : List (List UInt8 × E)), 0 ≤ i ∧ zz = x.length ∧ m + i = zz ∧ 0 ≤ rows ∧ rows + sumC rlen (ts.drop i.toNat) = sumC rlen ts ∧ (∀ (j : Nat) t, (j : Int) < i → ts[j]? = some t → good ts j t = true) ∧
      (∀ n, (∃ v, mlook ml n = some v) ↔ ∃ (j : Nat) (t : Tb), (j : Int) < i ∧ ts[j]? = some t ∧ t.1 = n) ∧
      s = ⟨[(19, .int i), (18, .int zz), (17, .e (.sl x)), (4, .int rows), (3, .mp 1), (2, .bool false), (1, .ref 0 0)], [.box [.e (.sl x)], .smap ml]⟩) x.length _
    (Weak.keep (env' := [(19, .int 0), (18, .int z), (17, .e (.sl x)), (4, .int 0), (3, .mp 1), (2, .bool false), (1, .ref 0 0)]) ⟨rfl, rfl, rfl, rfl, rfl, rfl, rfl, trivial⟩)
    ⟨0, 0, z, [], by omega, by omega, by omega, by omega, (by simp), (fun j t hj => by omega), (fun n => ⟨fun ⟨v, hv⟩ => (by simp [mlook] at hv), fun ⟨j, t, hj, _⟩ => (by omega)⟩), rfl⟩ ?_
  rintro m s K ⟨i, rows, zz, ml0, h0, hzz, h1, h2, h3, h4, h5, rfl⟩ hK
  by_cases hin : (0 : Int) ≤ i ∧ i < x.length
  · obtain ⟨⟨n1, c1, rs1⟩, e1, q1⟩ := row_at hx hin
    obtain ⟨x1, hx1⟩ : ∃ y, y = rs1.map rsr := ⟨_, rfl⟩
    have e1 : x.getD i.toNat [] = [E.str n1, E.int c1, E.sl x1] := e1.trans (by rw [hx1])
    have hl1 : x1.length = rs1.length := by rw [hx1]; simp
    rw [sumC_drop q1] at h3
    have hS := sumC_nonneg rlen_nonneg (ts.drop (i.toNat + 1))
    have hrl : rlen (n1, c1, rs1) = x1.length := by rw [hl1]; rfl
    have hd := d2 i.toNat _ q1
    have gi := good_iff (ts := ts) (i := i.toNat) (n := n1) (c := c1) (rs := rs1)
    obtain ⟨g, hg⟩ : ∃ g, g = good ts i.toNat (n1, c1, rs1) := ⟨_, rfl⟩
    rw [← hg] at hd gi
    obtain ⟨nb, hnb⟩ : ∃ b, b = nameB n1 := ⟨_, rfl⟩
    have hfr := (fidx_at ts i.toNat (n1, c1, rs1) 0 q1).2
    rw [Int.zero_add] at hfr
    have hfr : fidx ts n1 = ↑i.toNat ↔ mlook ml0 n1 = none := by
      rw [show fidx ts n1 = fidxN ts n1 0 from rfl, hfr]
      constructor
      · intro q
        cases hm : mlook ml0 n1 with
        | none => rfl
        | some v =>
          obtain ⟨j, t, hj, ht, e⟩ := (h5 n1).1 ⟨v, hm⟩
          exact absurd e (q j t (by omega) ht)
      · intro q j t' hj ht e
        obtain ⟨v, hv⟩ := (h5 n1).2 ⟨j, t', by omega, ht, e⟩
        rw [q] at hv; cases hv
    rw [← hnb, hfr] at gi
    have h66 := ok119 n1
    rw [← hnb] at h66
    have e8 : (i + 1).toNat = i.toNat + 1 := by omega
    have hK2 : (g = true) → ∀ (w : Int) (ml : List (List UInt8 × E)), w = rows + x1.length → ml = mset ml0 n1 (E.int i) → ∀ s1, Weak (hpF []) s1 ⟨[(19, .int (i + 1)), (18, .int zz), (17, .e (.sl x)), (4, .int w), (3, .mp 1), (2, .bool false), (1, .ref 0 0)], [.box [.e (.sl x)], .smap ml]⟩ → K s1 := fun e w ml hww hml s1 hw => by
      refine hK s1 (m - 1) _ (by omega) hw ⟨i + 1, _, zz, ml, by omega, hzz, by omega, by omega, by rw [e8]; omega, fun j t hj ht => ?_, fun n => ?_, rfl⟩
      · by_cases hji : (j : Int) < i
        · exact h4 j t hji ht
        · have : j = i.toNat := by omega
          subst this
          rw [q1] at ht
          cases ht
          rw [← hg]; exact e
      · rw [hml, mlook_mset]
        by_cases hn : n1 = n
        · rw [if_pos hn]
          exact ⟨fun _ => ⟨i.toNat, _, by omega, q1, hn⟩, fun _ => ⟨_, rfl⟩⟩
        · rw [if_neg hn, h5 n]
          constructor
          · rintro ⟨j, t, a, b, c⟩; exact ⟨j, t, by omega, b, c⟩
          · rintro ⟨j, t, a, b, c⟩
            refine ⟨j, t, ?_, b, c⟩
            by_cases hji : (j : Int) < i
            · exact hji
            · have : j = i.toNat := by omega
              subst this
              rw [q1] at b
              cases b
              exact absurd c hn
    clear hK h4 h5 hnb hfr hg d1 d2 d3
    cbv
    repeat' first | with_reducible rfl | with_reducible refine And.intro ?_ ?_ | ((with_reducible intro hcc); first | (cases hcc; done) | skip) | ((with_reducible first | show goC _ _ _ _ _ _ _ _ | show goOps _ _ _ _ _ | show goD _ _ _ _ _ _); cbv) | ((with_reducible show okWr _ _ = _); rfl) | ((with_reducible first | refine callK_f hA hP h66 ?_ ?_ ?_); exact rfl; exact rfl; cbv) | ((with_reducible refine hA.row x _ _ ⟨hin, fun row hrow => ?_⟩); rw [e1] at hrow; subst hrow; cbv) | ((with_reducible first | refine hA.fin_pl _ _ _ ?_ | refine hA.len _ _ _ _ _ fun z hz hb => ?_ | refine hA.off _ _ _ _ fun b hb => ?_ | refine hA.plus _ _ _ fun b hb => ?_ | refine hA.gb0 true _ ?_ | refine hA.gb0 false _ ?_ | refine hA.gb _ _ fun vb hvb => ?_ | refine hA.mset _ _ _ _ fun ml hml => ?_); cbv) | ((with_reducible first | refine hA.st _ _ _ _ _ ⟨?_, fun ds hds => ?_⟩ | refine hA.sapp _ _ _ ⟨?_, fun sl hsl => ?_⟩); rotate_left; cbv) | ((with_reducible refine hA.mget _ _ _ _ ⟨fun mv hmv => ?_, fun hmv => ?_⟩) <;> cbv) | (simp only [hA.lits]; cbv)
    all_goals try simp only [hA.ar, inR, n_cast, Int.ofNat_eq_natCast, Option.getD_some, Option.getD_none] at *
    all_goals try (first
      | omega
      | (clear hK2 hd gi h66; simp at *; omega)
      | (clear hK2 hd gi h66; grind; done))
    all_goals try (
      have hf : g = false := (by
        rw [Bool.eq_false_iff]
        intro q
        obtain ⟨a1, a2, a3, _⟩ := gi.1 q
        clear hK2 hd gi h66
        first
          | (rw [a3] at hmv; cases hmv; done)
          | (grind; done)
          | (simp at *; done)
          | (simp at *; grind; done))
      rw [hd hf]
      done)
    have hpre : g = true ↔ ∀ r ∈ rs1, (r.length : Int) = c1 := by
      rw [gi]
      have : nb = true ∧ (1 ≤ c1 ∧ c1 ≤ 16) := by
        clear hK2 hd gi h66
        simp at *
        grind
      exact ⟨fun q => q.2.2.2, fun q => ⟨this.1, this.2, hmv, q⟩⟩
    clear gi h66
    refine hA.loopI (fun mm s => ∃ jj zj w : Int, 0 ≤ jj ∧ zj = x1.length ∧ mm + jj = zj ∧ w = rows + x1.length ∧ (∀ (k : Nat) r', (k : Int) < jj → rs1[k]? = some r' → (r'.length : Int) = c1) ∧
        s = ⟨[(60, .int jj), (59, .int zj), (58, .e (.sl x1)), (6, .ref 2 0), (19, .int i), (18, .int zz), (17, .e (.sl x)), (4, .int w), (3, .mp 1), (2, .bool false), (1, .ref 0 0)],
          [.box [.e (.sl x)], .smap ml, .box [.str n1, .int c1, .e (.sl x1)]]⟩) x1.length _
      (Weak.keep (env' := [(60, .int 0), (59, .int _), (58, .e (.sl x1)), (6, .ref 2 0), (19, .int i), (18, .int zz), (17, .e (.sl x)), (4, .int (rows + _)), (3, .mp 1), (2, .bool false), (1, .ref 0 0)]) ⟨rfl, rfl, rfl, rfl, rfl, rfl, rfl, rfl, rfl, rfl, rfl, trivial⟩)
      ⟨0, _, _, by omega, ?_, ?_, ?_, (fun k r' hk => by omega), rfl⟩ ?_
    · omega
    · omega
    · omega
    rintro mm s K3 ⟨jj, zj, w, j0, jz, j1, jw, j2, rfl⟩ hK3
    by_cases hjn : (0 : Int) ≤ jj ∧ jj < x1.length
    · obtain ⟨r1, e2, q2⟩ := row_at hx1 hjn
      obtain ⟨y1, hy1⟩ : ∃ y, y = r1.map vr := ⟨_, rfl⟩
      have e2 : x1.getD jj.toNat [] = [E.sl y1] := e2.trans (by rw [hy1])
      have hly : y1.length = r1.length := by rw [hy1]; simp
      have k1 : ¬ (r1.length : Int) = c1 → r = false := fun q => hd (by
        rw [Bool.eq_false_iff]
        intro q'
        exact q (hpre.1 q' r1 (List.mem_of_getElem? q2)))
      have k2 : (r1.length : Int) = c1 → ∀ s1, Weak (hpF []) s1 ⟨[(60, .int (jj + 1)), (59, .int zj), (58, .e (.sl x1)), (6, .ref 2 0), (19, .int i), (18, .int zz), (17, .e (.sl x)), (4, .int w), (3, .mp 1), (2, .bool false), (1, .ref 0 0)],
          [.box [.e (.sl x)], .smap ml, .box [.str n1, .int c1, .e (.sl x1)]]⟩ → K3 s1 := fun q s1 hw => by
        refine hK3 s1 (mm - 1) _ (by omega) hw ⟨jj + 1, zj, w, by omega, jz, by omega, jw, fun k r' hk hr' => ?_, rfl⟩
        by_cases hkj : (k : Int) < jj
        · exact j2 k r' hkj hr'
        · have : k = jj.toNat := by omega
          subst this
          rw [q2] at hr'
          cases hr'
          exact q
      clear hK3 hK2 hd hpre j2
      cbv
      repeat' first | with_reducible rfl | with_reducible refine And.intro ?_ ?_ | ((with_reducible intro hcc); first | (cases hcc; done) | skip) | ((with_reducible first | show goC _ _ _ _ _ _ _ _ | show goOps _ _ _ _ _ | show goD _ _ _ _ _ _); cbv) | ((with_reducible show okWr _ _ = _); rfl) | ((with_reducible refine hA.row x1 _ _ ⟨hjn, fun row hrow => ?_⟩); rw [e2] at hrow; subst hrow; cbv) | ((with_reducible first | refine hA.fin_pl _ _ _ ?_ | refine hA.len _ _ _ _ _ fun z hz hb => ?_ | refine hA.off _ _ _ _ fun b hb => ?_ | refine hA.plus _ _ _ fun b hb => ?_ | refine hA.gb0 true _ ?_ | refine hA.gb0 false _ ?_ | refine hA.gb _ _ fun vb hvb => ?_ | refine hA.mset _ _ _ _ fun ml hml => ?_); cbv) | ((with_reducible first | refine hA.st _ _ _ _ _ ⟨?_, fun ds hds => ?_⟩ | refine hA.sapp _ _ _ ⟨?_, fun sl hsl => ?_⟩); rotate_left; cbv) | ((with_reducible refine hA.mget _ _ _ _ ⟨fun mv hmv => ?_, fun hmv => ?_⟩) <;> cbv) | (simp only [hA.lits]; cbv)
      all_goals try simp only [hA.ar, inR, n_cast, Int.ofNat_eq_natCast, Option.getD_some, Option.getD_none] at *
      all_goals first
        | omega
        | (rw [k1 (by clear k1 k2 hx hx1 e1 e2 hy1 hml hmv; grind)]; done)
        | (exact k2 (by clear k1 k2 hx hx1 e1 e2 hy1 hml hmv; grind) _ (Weak.keep ⟨rfl, rfl, rfl, rfl, rfl, rfl, rfl, rfl, rfl, rfl, rfl, trivial⟩))
        | (clear k1 k2 hml hmv; simp at *; omega)
        | (clear k1 k2 hml hmv; grind; done)
        | (trace_state; fail)
    · have hgt : g = true := hpre.2 fun r' hr' => by
        obtain ⟨k, hk, e⟩ := List.getElem_of_mem hr'
        exact j2 k r' (by omega) (by rw [← e]; simp [hk])
      have hK4 := hK2 hgt
      clear hK3 hK2 hd hpre j2
      cbv
      repeat' first | with_reducible rfl | with_reducible refine And.intro ?_ ?_ | ((with_reducible intro hcc); first | (cases hcc; done) | skip) | ((with_reducible first | show goC _ _ _ _ _ _ _ _ | show goOps _ _ _ _ _ | show goD _ _ _ _ _ _); cbv) | ((with_reducible show okWr _ _ = _); rfl) | (exfalso; simp only [hA.lt, hA.sub, decide_eq_true_eq, decide_eq_false_iff_not, n_cast] at *; omega) | ((with_reducible first | refine hA.fin_pl _ _ _ ?_ | refine hA.len _ _ _ _ _ fun z hz hb => ?_ | refine hA.off _ _ _ _ fun b hb => ?_ | refine hA.plus _ _ _ fun b hb => ?_ | refine hA.gb0 true _ ?_ | refine hA.gb0 false _ ?_ | refine hA.gb _ _ fun vb hvb => ?_ | refine hA.mset _ _ _ _ fun ml hml => ?_); cbv) | ((with_reducible first | refine hA.st _ _ _ _ _ ⟨?_, fun ds hds => ?_⟩ | refine hA.sapp _ _ _ ⟨?_, fun sl hsl => ?_⟩); rotate_left; cbv) | ((with_reducible refine hA.mget _ _ _ _ ⟨fun mv hmv => ?_, fun hmv => ?_⟩) <;> cbv) | (simp only [hA.lits]; cbv)
      all_goals try simp only [hA.ar, inR, n_cast, Int.ofNat_eq_natCast, Option.getD_some, Option.getD_none] at *
      all_goals first
        | omega
        | (refine hK4 w ml jw hml _ (Weak.ren (l0 := []) [0, 1] (fun t => [(19, .int (i + 1)), (18, .int zz), (17, .e (.sl x)), (4, .int w), (3, .mp (t 1)), (2, .bool false), (1, .ref (t 0) 0)]) (fun t => [.box [.e (.sl x)], .smap ml]) rfl ⟨.inl rfl, .inl rfl, .inl rfl, .inl rfl, .inl rfl, .inl rfl, .inl rfl, trivial⟩ ⟨rfl, rfl, trivial⟩ ⟨fun t => rfl, rfl, fun t => rfl, by simp [O.lt, lts, D.lt]⟩))
        | (clear hK4 hml hmv; simp at *; omega)
        | (trace_state; fail)
  · have hd0 : ts.drop i.toNat = [] := by rw [List.drop_eq_nil_iff]; omega
    rw [hd0] at h3
    have h3 : rows + 0 = sumC rlen ts := h3
    have hr3 := d3 h50 fun j t ht => h4 j t (by have := (List.getElem?_eq_some_iff.1 ht).1; omega) ht
    clear hK h4 h5 d1 d2 d3
    cbv
    repeat' first | with_reducible rfl | with_reducible refine And.intro ?_ ?_ | ((with_reducible intro hcc); first | (cases hcc; done) | skip) | ((with_reducible first | show goC _ _ _ _ _ _ _ _ | show goOps _ _ _ _ _ | show goD _ _ _ _ _ _); cbv) | ((with_reducible show okWr _ _ = _); rfl) | (exfalso; simp only [hA.lt, hA.sub, decide_eq_true_eq, decide_eq_false_iff_not, n_cast] at *; omega) | ((with_reducible first | refine hA.fin_pl _ _ _ ?_ | refine hA.len _ _ _ _ _ fun z hz hb => ?_ | refine hA.off _ _ _ _ fun b hb => ?_ | refine hA.plus _ _ _ fun b hb => ?_ | refine hA.gb0 true _ ?_ | refine hA.gb0 false _ ?_ | refine hA.gb _ _ fun vb hvb => ?_ | refine hA.mset _ _ _ _ fun ml hml => ?_); cbv) | ((with_reducible first | refine hA.st _ _ _ _ _ ⟨?_, fun ds hds => ?_⟩ | refine hA.sapp _ _ _ ⟨?_, fun sl hsl => ?_⟩); rotate_left; cbv) | ((with_reducible refine hA.mget _ _ _ _ ⟨fun mv hmv => ?_, fun hmv => ?_⟩) <;> cbv) | (simp only [hA.lits]; cbv)
    all_goals try simp only [hA.ar, inR, n_cast, Int.ofNat_eq_natCast, Option.getD_some, Option.getD_none] at *
    all_goals first
      | (rw [hr3, ← h3, Int.add_zero]; done)
      | omega
      | (trace_state; fail))
end Go.Proofs.Ytfplalbognalkaa.Ab
/- Sizes of tables. -/
namespace Go.Proofs.Ytfplalbognalkaa.Ab
open Go
theorem sz_in' {ts : List Tb} (h : cTS ts ≤ 1048576) : ts.length ≤ 1048576 ∧ ∀ t ∈ ts, t.2.2.length ≤ 1048576 ∧ ∀ r ∈ t.2.2, r.length ≤ 1048576 := by
  have h0 := sumC_nonneg cT_nonneg ts
  refine ⟨by unfold cTS at h; omega, fun t ht => ?_⟩
  have h1 := sz_row ht
  have h2 := sumC_nonneg cV_nonneg t.2.2
  unfold cT cSS at h1
  refine ⟨by omega, fun r hr => ?_⟩
  have h3 : (r.length : Int) ≤ _ := sumC_mem cV_nonneg hr
  omega
end Go.Proofs.Ytfplalbognalkaa.Ab
