/- Loops, and buffers that are handed on. -/
import Derived.Test.YtmnhoglkahmlaaaAb11
set_option linter.unusedSimpArgs false
set_option linter.unusedVariables false
set_option linter.unnecessarySimpa false
set_option linter.constructorNameAsVariable false
namespace Go.Proofs.Ytmnhoglkahmlaaa.Ab
open Go

def subL : List (Nat × D) → List (Nat × D) → Prop
  | [], _ => True
  | (t, d) :: r, env => look t env = some d ∧ subL r env

theorem look_subL : ∀ {env' env : List (Nat × D)} {t : Nat} {d : D}, subL env' env → look t env' = some d → look t env = some d
  | [], _, _, _, _, h => by simp [look] at h
  | (k, x) :: r, env, t, d, ⟨h1, h2⟩, h => by
    simp only [look] at h
    split at h
    · rename_i e; subst e; cases h; exact h1
    · exact look_subL h2 h

theorem Weak.refl (h0 : Hp) (s : St) : Weak h0 s s := fun _ G hi => ⟨G, hi, fun _ _ e => e, fun _ d' h => ⟨d', h, fun _ r => r⟩⟩

theorem Weak.trans {h0 : Hp} {a b c : St} (x : Weak h0 a b) (y : Weak h0 b c) : Weak h0 a c := by
  intro w G hi
  obtain ⟨G1, i1, e1, r1⟩ := x w G hi
  obtain ⟨G2, i2, e2, r2⟩ := y w G1 i1
  refine ⟨G2, i2, fun w0 G0 e => e2 _ _ (e1 _ _ e), fun t d' h => ?_⟩
  obtain ⟨d1, h1, q1⟩ := r2 t d' h
  obtain ⟨d0, h0, q0⟩ := r1 t d1 h1
  exact ⟨d0, h0, fun v r => q1 v (q0 v r)⟩

/-- Some of the slots, in whatever order. -/
theorem Weak.keep {h0 : Hp} {env env' : List (Nat × D)} {hp : List O} (h : subL env' env) : Weak h0 ⟨env, hp⟩ ⟨env', hp⟩ :=
  fun _ G hi => ⟨G, hi, fun _ _ e => e, fun _ d' hl => ⟨d', look_subL h hl, fun _ r => r⟩⟩

def freeL : List (Nat × D) → Bool
  | [] => true
  | (_, d) :: r => d.free && freeL r

theorem look_free : ∀ {env : List (Nat × D)} {t : Nat} {d : D}, freeL env = true → look t env = some d → d.free = true
  | [], _, _, _, h => by simp [look] at h
  | (k, x) :: r, t, d, hf, h => by
    simp only [freeL, Bool.and_eq_true] at hf
    simp only [look] at h
    split at h
    · cases h; exact hf.1
    · exact look_free hf.2 h

/-- Nothing that is still written is wanted any more. -/
theorem Weak.gc {env env' : List (Nat × D)} {hp : List O} (h : subL env' env) (hf : freeL env' = true) : Weak (hpF []) ⟨env, hp⟩ ⟨env', []⟩ := by
  intro w G hi
  refine ⟨G, inv_nil hi, fun w0 G0 e => ?_, fun t d' hl => ⟨d', look_subL h hl, fun x r => r.free (look_free hf hl) rfl⟩⟩
  simp only [hpF_nil] at e ⊢
  exact ⟨e.os, e.tape, e.output, e.size, e.pub, fun i ds h => by simp at h, fun i n k h => by simp at h, e.others, fun i h => by simp [O.has] at h, e.pubnew, fun i b k ds h => by simp at h, fun i h => by simp at h, fun i l h => by simp at h⟩

theorem Ar.Ok.loopI {A : Ar} (hA : A.Ok) {h0 : Hp} {body : (St → Prop) → St → Prop} {s : St} (I : Nat → St → Prop) (n0 : Nat) (s0 : St) (hw : Weak h0 s s0) (hi : I n0 s0)
    (step : ∀ n s K, I n s → (∀ s1 m s', m < n → Weak h0 s1 s' → I m s' → K s1) → body K s) : A.loop h0 body s :=
  hA.loop _ _ _ ⟨I, ⟨n0, s0, hw, hi⟩, fun n s hI => step n s _ hI fun s1 m s' h1 h2 h3 => ⟨m, s', h1, h2, h3⟩⟩

theorem rv_e {w G h} {x : Value} {d : E} (r : Rv w G h x (.e d)) : RvE w G.pub x d := by
  cases r with | e r => exact r

/-- A buffer is handed on: its cells are written no more. -/
theorem fin_bs {l : List O} {i n k : Nat} {es : List (List E)} (hb : hpF l i = .box (es.flatten.map .e)) (hn : es.length = n) (hk : ∀ e ∈ es, e.length = k) : FinW l (.bs i 0 n k) (.e (.sl es)) := by
  intro w G v hi hr
  have hfl : es.flatten.length = n * k := by rw [flatten_len hk, hn]
  obtain ⟨hnp, cs, T, hc, hcl, hcr⟩ := hi.box i _ hb
  have hlt : G.blk i < w.heap.size := hi.lt i (by rw [hb]; rfl)
  refine ⟨⟨fun b' o' => G.pub b' o' ∨ (b' = G.blk i ∧ o' < n * k), G.blk⟩, ?_, ?_, fun w0 G0 e => ?_⟩
  · cases hr with
    | bs hb' hcap hl hm =>
      rename_i cap ds b o
      rw [hb] at hb'
      cases hb'
      refine .e ?_
      rcases hl with h0 | ⟨rfl, rfl, hsz⟩
      · have : es = [] := List.length_eq_zero_iff.1 (by omega)
        subst this
        exact .sl (fun _ => undef) hn hcap hm hk (fun j hj => by rw [h0] at hj; simp at hj) (fun j d hd => by simp at hd)
      · refine .sl (k := k) (fun j => cs.getD j undef) hn hcap hm hk (fun j hj => ?_) (fun j d hd => ?_)
        · have hjc : j < cs.size := by rw [hcl, List.length_map, hfl]; exact hj
          rw [Nat.zero_add]
          exact ⟨.inr ⟨rfl, hj⟩, by simp [World.cell?, hc, hjc]⟩
        · have hj : j < cs.size := by rw [hcl, List.length_map]; exact (List.getElem?_eq_some_iff.1 hd).1
          have := (hcr j cs[j] (.e d) (by simp [hj]) (by rw [List.getElem?_map, hd]; rfl)).1
          have hg : cs.getD j undef = cs[j] := by simp [Array.getD, hj]
          rw [hg]
          exact (rv_e this).mono fun _ _ p => ⟨.inl p, rfl⟩
  · rw [hpF_nil]
    refine ⟨fun i h => by simp [O.has] at h, fun i j h => by simp [O.has] at h, fun b o p => ?_, fun i ds e => by simp at e, fun i n k e => by simp at e, fun i b k ds e => by simp at e, fun i l e => by simp at e⟩
    rcases p with p | ⟨rfl, _⟩
    · exact hi.publt b o p
    · exact hlt
  · rw [hpF_nil] at e ⊢
    refine ⟨e.os, e.tape, e.output, e.size, fun b o p => ⟨.inl (e.pub b o p).1, (e.pub b o p).2⟩, fun i ds h => by simp at h, fun i n k h => by simp at h, e.others, fun i h => by simp [O.has] at h, fun b o p => ?_, fun i b k ds h => by simp at h, fun i h => by simp at h, fun i l h => by simp at h⟩
    rcases p with p | ⟨rfl, _⟩
    · exact e.pubnew b o p
    · rcases e.new i (by rw [hb]; rfl) with ⟨_, h, _⟩ | h
      · simp [O.has] at h
      · exact .inr (.inl h)

theorem Ar.Ok.fin_bs {A : Ar} (h : A.Ok) {l : List O} {i n k : Nat} {es : List (List E)} (hb : hpF l i = .box (es.flatten.map .e)) (hn : es.length = n) (hk : ∀ e ∈ es, e.length = k) : A.fin l (.bs i 0 n k) (.e (.sl es)) :=
  h.fin _ _ _ fun _ => Ab.fin_bs hb hn hk

end Go.Proofs.Ytmnhoglkahmlaaa.Ab
