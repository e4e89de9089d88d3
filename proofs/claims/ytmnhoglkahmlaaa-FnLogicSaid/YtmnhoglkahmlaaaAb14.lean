/- Calls that are handed things that are still written; states taken for less, under new numbers. -/
import Derived.Test.YtmnhoglkahmlaaaAb13
set_option linter.unusedSimpArgs false
set_option linter.unusedVariables false
set_option linter.unnecessarySimpa false
set_option linter.constructorNameAsVariable false
namespace Go.Proofs.Ytmnhoglkahmlaaa.Ab
open Go

section
open Classical in
/-- The blocks behind a call: those that the call had, and the caller's others. -/
noncomputable def blkOf (n : Nat) (t : Nat → Nat) (B Bc : Nat → Nat) : Nat → Nat := fun j => if h : ∃ i, i < n ∧ t i = j then Bc h.choose else B j

theorem blkOf_in {n : Nat} {t B Bc : Nat → Nat} (inj : ∀ i j, i < n → j < n → t i = t j → i = j) {i : Nat} (hi : i < n) : blkOf n t B Bc (t i) = Bc i := by
  have h : ∃ i', i' < n ∧ t i' = t i := ⟨i, hi, rfl⟩
  unfold blkOf
  rw [dif_pos h]
  rw [inj _ _ h.choose_spec.1 hi h.choose_spec.2]

theorem blkOf_out {n : Nat} {t B Bc : Nat → Nat} {j : Nat} (h : ∀ i, i < n → t i ≠ j) : blkOf n t B Bc j = B j := by
  unfold blkOf
  rw [dif_neg (fun ⟨i, a, b⟩ => h i a b)]
end

/-- Behind a call that was handed some of the caller's things: the caller's memory is as told. -/
theorem frame_call {w w' : World} {G Gc : Gh} {h h' : Hp} {l0 l : List O} {t : Nat → Nat} (hi : Inv w G h)
    (inj : ∀ i j, i < l.length → j < l.length → t i = t j → i = j) (hle : l0.length ≤ l.length)
    (hpre : ∀ i, i < l0.length → h (t i) = (hpF l0 i).ren t) (hnew : ∀ i, l0.length ≤ i → i < l.length → h (t i) = .dead)
    (h1 : ∀ i, i < l.length → h' (t i) = (hpF l i).ren t) (h2 : ∀ j, (∀ i, i < l.length → t i ≠ j) → h' j = h j)
    (hi1 : Inv w' Gc (hpF l)) (he : Ext w ⟨G.pub, fun i => G.blk (t i)⟩ (hpF l0) w' Gc (hpF l)) :
    Inv w' ⟨Gc.pub, blkOf l.length t G.blk Gc.blk⟩ h' ∧ Ext w G h w' ⟨Gc.pub, blkOf l.length t G.blk Gc.blk⟩ h' := by
  have bin : ∀ i, i < l.length → blkOf l.length t G.blk Gc.blk (t i) = Gc.blk i := fun i q => blkOf_in inj q
  have bout : ∀ j, (∀ i, i < l.length → t i ≠ j) → blkOf l.length t G.blk Gc.blk j = G.blk j := fun j q => blkOf_out q
  have part : ∀ j, (∃ i, i < l.length ∧ t i = j) ∨ ∀ i, i < l.length → t i ≠ j := fun j => by
    by_cases q : ∃ i, i < l.length ∧ t i = j
    · exact .inl q
    · exact .inr fun i a b => q ⟨i, a, b⟩
  have has0 : ∀ i, (hpF l0 i).has = true → i < l0.length ∧ (h (t i)).has = true := fun i hh => by
    rcases Nat.lt_or_ge i l0.length with q | q
    · exact ⟨q, by rw [hpre i q, O.ren_has]; exact hh⟩
    · rw [hpF_ge q] at hh; simp [O.has] at hh
  have hasl : ∀ i, (hpF l i).has = true → i < l.length := fun i hh => by
    rcases Nat.lt_or_ge i l.length with q | q
    · exact q
    · rw [hpF_ge q] at hh; simp [O.has] at hh
  -- the caller's other things stand
  have row : ∀ j, (∀ i, i < l.length → t i ≠ j) → (h j).has = true → w'.heap[G.blk j]? = w.heap[G.blk j]? := fun j hj hh =>
    he.others _ (hi.lt j hh) fun i hi0 => fun eb => by
      obtain ⟨q1, q2⟩ := has0 i hi0
      exact hj i (by omega) (hi.inj _ _ q2 hh eb)
  -- a block of the call's is none of the caller's others
  have apart : ∀ i j, i < l.length → (hpF l i).has = true → (∀ i, i < l.length → t i ≠ j) → (h j).has = true → Gc.blk i ≠ G.blk j := fun i j hil hh hj hhj eb => by
    rcases he.new i hh with ⟨i0, q1, q2⟩ | q
    · obtain ⟨q3, q4⟩ := has0 i0 q1
      exact hj i0 (by omega) (hi.inj _ _ q4 hhj (q2.symm.trans eb))
    · have := hi.lt j hhj; omega
  have old : ∀ i, i < l.length → h (t i) ≠ .dead → i < l0.length := fun i a b => by
    rcases Nat.lt_or_ge i l0.length with q | q
    · exact q
    · exact absurd (hnew i q a) b
  have ext : Ext w G h w' ⟨Gc.pub, blkOf l.length t G.blk Gc.blk⟩ h' := {
    os := he.os
    tape := he.tape
    output := he.output
    size := he.size
    pub := he.pub
    box := fun j ds e => by
      rcases part j with ⟨i, hil, rfl⟩ | hj
      · have hi0 := old i hil (by rw [e]; simp)
        obtain ⟨ds0, e0, rfl⟩ := ren_box ((hpre i hi0).symm.trans e)
        obtain ⟨⟨ds', q1, q2⟩, q3⟩ := he.box i ds0 e0
        have q4 := h1 i hil
        rw [q1] at q4
        exact ⟨⟨_, q4, by rw [rens_len, rens_len]; exact q2⟩, (bin i hil).trans q3⟩
      · exact ⟨⟨ds, by rw [h2 j hj, e], rfl⟩, bout j hj⟩
    tok := fun j n k e => by
      rcases part j with ⟨i, hil, rfl⟩ | hj
      · have hi0 := old i hil (by rw [e]; simp)
        have e0 := ren_front ((hpre i hi0).symm.trans e)
        obtain ⟨n', q1, q2, q3⟩ := he.tok i n k e0
        have q4 := h1 i hil
        rw [q1] at q4
        exact ⟨n', q4, q2, fun a b => ⟨(bin i hil).trans (q3 a b).1, (q3 a b).2⟩⟩
      · exact ⟨n, by rw [h2 j hj, e], Nat.le_refl _, fun _ h0 => ⟨bout j hj, by simp only [World.shape?]; rw [row j hj (by rw [e]; simp [O.has, h0])]⟩⟩
    others := fun b hb ho => he.others b hb fun i hi0 => ho (t i) (has0 i hi0).2
    new := fun j hj => by
      rcases part j with ⟨i, hil, rfl⟩ | hj'
      · rw [h1 i hil, O.ren_has] at hj
        rcases he.new i hj with ⟨i0, q1, q2⟩ | q
        · exact .inl ⟨t i0, (has0 i0 q1).2, (bin i hil).trans q2⟩
        · exact .inr (by show _ ≤ blkOf _ _ _ _ (t i); rw [bin i hil]; exact q)
      · rw [h2 j hj'] at hj
        exact .inl ⟨j, hj, bout j hj'⟩
    pubnew := fun b o p => by
      rcases he.pubnew b o p with q | q | ⟨i, q1, q2⟩
      · exact .inl q
      · exact .inr (.inl q)
      · exact .inr (.inr ⟨t i, (has0 i q1).2, q2⟩)
    vec := fun j b k ds e => by
      rcases part j with ⟨i, hil, rfl⟩ | hj
      · have hi0 := old i hil (by rw [e]; simp)
        obtain ⟨ds0, e0, rfl⟩ := ren_vec ((hpre i hi0).symm.trans e)
        have q4 := h1 i hil
        rcases he.vec i b k ds0 e0 with q1 | ⟨ds', q1, q2, q3⟩
        · rw [q1] at q4; exact .inl q4
        · rw [q1] at q4; exact .inr ⟨_, q4, by rw [rens_len, rens_len]; exact q2, fun hb => ⟨(bin i hil).trans (q3 hb).1, (q3 hb).2⟩⟩
      · exact .inr ⟨ds, by rw [h2 j hj, e], Nat.le_refl _, fun hb => ⟨bout j hj, by simp only [World.shape?]; rw [row j hj (by rw [e]; exact hb)]⟩⟩
    gone := fun j e => by
      rcases part j with ⟨i, hil, rfl⟩ | hj
      · have hi0 := old i hil (by rw [e]; simp)
        have e0 := ren_gone ((hpre i hi0).symm.trans e)
        have q4 := h1 i hil
        rw [he.gone i e0] at q4
        exact q4
      · rw [h2 j hj, e]
    smap := fun j l' e => by
      rcases part j with ⟨i, hil, rfl⟩ | hj
      · have hi0 := old i hil (by rw [e]; simp)
        have e0 := ren_smap ((hpre i hi0).symm.trans e)
        obtain ⟨⟨l2, q1⟩, q3⟩ := he.smap i l' e0
        have q4 := h1 i hil
        rw [q1] at q4
        exact ⟨⟨l2, q4⟩, (bin i hil).trans q3⟩
      · exact ⟨⟨l', by rw [h2 j hj, e]⟩, bout j hj⟩ }
  have rn : ∀ {v d}, Rv w' Gc (hpF l) v d → Rv w' ⟨Gc.pub, blkOf l.length t G.blk Gc.blk⟩ h' v (d.ren t) := fun r => Rv.ren (G := Gc) (h := hpF l) (G2 := ⟨Gc.pub, blkOf l.length t G.blk Gc.blk⟩) (h2 := h') rfl (r := r) fun i hd => by
    have hil : i < l.length := by
      rcases Nat.lt_or_ge i l.length with q | q
      · exact q
      · exact absurd (hpF_ge q) hd
    exact ⟨h1 i hil, bin i hil⟩
  refine ⟨{ lt := fun j hj => ?_, inj := fun a b p q e => ?_, publt := hi1.publt, box := fun j ds e => ?_, front := fun j n k e h0 => ?_, vec := fun j b k ds e => ?_, smap := fun j l' e => ?_ }, ext⟩
  · rcases part j with ⟨i, hil, rfl⟩ | hj'
    · rw [h1 i hil, O.ren_has] at hj
      show blkOf _ _ _ _ (t i) < _
      rw [bin i hil]
      exact hi1.lt i hj
    · rw [h2 j hj'] at hj
      show blkOf _ _ _ _ j < _
      rw [bout j hj']
      exact Nat.lt_of_lt_of_le (hi.lt j hj) he.size
  · have e : blkOf l.length t G.blk Gc.blk a = blkOf l.length t G.blk Gc.blk b := e
    rcases part a with ⟨i, hil, rfl⟩ | ha <;> rcases part b with ⟨i2, hil2, rfl⟩ | hb
    · rw [h1 i hil, O.ren_has] at p
      rw [h1 i2 hil2, O.ren_has] at q
      rw [bin i hil, bin i2 hil2] at e
      rw [hi1.inj i i2 p q e]
    · rw [h1 i hil, O.ren_has] at p
      rw [h2 b hb] at q
      rw [bin i hil, bout b hb] at e
      exact absurd e (apart i b hil p hb q)
    · rw [h1 i2 hil2, O.ren_has] at q
      rw [h2 a ha] at p
      rw [bin i2 hil2, bout a ha] at e
      exact absurd e.symm (apart i2 a hil2 q ha p)
    · rw [h2 a ha] at p
      rw [h2 b hb] at q
      rw [bout a ha, bout b hb] at e
      exact hi.inj a b p q e
  · rcases part j with ⟨i, hil, rfl⟩ | hj
    · obtain ⟨ds0, e0, rfl⟩ := ren_box ((h1 i hil).symm.trans e)
      obtain ⟨a1, cs, T, a2, a3, a4⟩ := hi1.box i ds0 e0
      show (∀ o, ¬ Gc.pub (blkOf _ _ _ _ (t i)) o) ∧ ∃ cs T, w'.heap[blkOf _ _ _ _ (t i)]? = _ ∧ _
      rw [bin i hil]
      refine ⟨a1, cs, T, a2, by rw [rens_len]; exact a3, fun m c d hc hd => ?_⟩
      rw [rens_get] at hd
      obtain ⟨d0, q0, rfl⟩ := Option.map_eq_some_iff.1 hd
      exact ⟨rn (a4 m c d0 hc q0).1, (a4 m c d0 hc q0).2⟩
    · rw [h2 j hj] at e
      obtain ⟨a1, cs, T, a2, a3, a4⟩ := hi.box j ds e
      have hh : (h j).has = true := by rw [e]; rfl
      show (∀ o, ¬ Gc.pub (blkOf _ _ _ _ j) o) ∧ ∃ cs T, w'.heap[blkOf _ _ _ _ j]? = _ ∧ _
      rw [bout j hj]
      refine ⟨fun o p => ?_, cs, T, by rw [← a2]; exact row j hj hh, a3, fun m c d hc hd => ⟨(a4 m c d hc hd).1.ext ext, (a4 m c d hc hd).2⟩⟩
      rcases he.pubnew _ _ p with q | q | ⟨i, q1, q2⟩
      · exact a1 o q
      · have := hi.lt j hh; exact absurd this (Nat.not_lt.2 q)
      · obtain ⟨q3, q4⟩ := has0 i q1
        exact hj i (by omega) (hi.inj _ _ q4 hh q2)
  · rcases part j with ⟨i, hil, rfl⟩ | hj
    · have e0 := ren_front ((h1 i hil).symm.trans e)
      show (∃ cs T, w'.heap[blkOf _ _ _ _ (t i)]? = _) ∧ ∀ o, _ → ¬ Gc.pub (blkOf _ _ _ _ (t i)) o
      rw [bin i hil]
      exact hi1.front i n k e0 h0
    · rw [h2 j hj] at e
      obtain ⟨⟨cs, T, a1⟩, a2⟩ := hi.front j n k e h0
      have hh : (h j).has = true := by rw [e]; simp [O.has, h0]
      show (∃ cs T, w'.heap[blkOf _ _ _ _ j]? = _) ∧ ∀ o, _ → ¬ Gc.pub (blkOf _ _ _ _ j) o
      rw [bout j hj]
      refine ⟨⟨cs, T, by rw [← a1]; exact row j hj hh⟩, fun o ho p => ?_⟩
      rcases he.pubnew _ _ p with q | q | ⟨i, q1, q2⟩
      · exact a2 o ho q
      · have := hi.lt j hh; exact absurd this (Nat.not_lt.2 q)
      · obtain ⟨q3, q4⟩ := has0 i q1
        exact hj i (by omega) (hi.inj _ _ q4 hh q2)
  · rcases part j with ⟨i, hil, rfl⟩ | hj
    · obtain ⟨ds0, e0, rfl⟩ := ren_vec ((h1 i hil).symm.trans e)
      obtain ⟨a0, a⟩ := hi1.vec i b k ds0 e0
      refine ⟨fun hb => by rw [a0 hb]; rfl, fun hb => ?_⟩
      obtain ⟨a1, cs, T, a2, a3, a4⟩ := a hb
      show (∀ o, ¬ Gc.pub (blkOf _ _ _ _ (t i)) o) ∧ ∃ cs T, w'.heap[blkOf _ _ _ _ (t i)]? = _ ∧ _
      rw [bin i hil]
      refine ⟨a1, cs, T, a2, by rw [rens_len]; exact a3, fun m c d hc hd => ?_⟩
      rw [rens_get] at hd
      obtain ⟨d0, q0, rfl⟩ := Option.map_eq_some_iff.1 hd
      exact ⟨rn (a4 m c d0 hc q0).1, (a4 m c d0 hc q0).2⟩
    · rw [h2 j hj] at e
      obtain ⟨a0, a⟩ := hi.vec j b k ds e
      refine ⟨a0, fun hb => ?_⟩
      obtain ⟨a1, cs, T, a2, a3, a4⟩ := a hb
      have hh : (h j).has = true := by rw [e]; exact hb
      show (∀ o, ¬ Gc.pub (blkOf _ _ _ _ j) o) ∧ ∃ cs T, w'.heap[blkOf _ _ _ _ j]? = _ ∧ _
      rw [bout j hj]
      refine ⟨fun o p => ?_, cs, T, by rw [← a2]; exact row j hj hh, a3, fun m c d hc hd => ⟨(a4 m c d hc hd).1.ext ext, (a4 m c d hc hd).2⟩⟩
      rcases he.pubnew _ _ p with q | q | ⟨i, q1, q2⟩
      · exact a1 o q
      · have := hi.lt j hh; exact absurd this (Nat.not_lt.2 q)
      · obtain ⟨q3, q4⟩ := has0 i q1
        exact hj i (by omega) (hi.inj _ _ q4 hh q2)
  · rcases part j with ⟨i, hil, rfl⟩ | hj
    · have e0 := ren_smap ((h1 i hil).symm.trans e)
      show (∀ o, ¬ Gc.pub (blkOf _ _ _ _ (t i)) o) ∧ ∃ es ck, w'.heap[blkOf _ _ _ _ (t i)]? = _ ∧ _
      rw [bin i hil]
      exact hi1.smap i l' e0
    · rw [h2 j hj] at e
      obtain ⟨a1, es, ck, a2, a3, a4⟩ := hi.smap j l' e
      have hh : (h j).has = true := by rw [e]; rfl
      show (∀ o, ¬ Gc.pub (blkOf _ _ _ _ j) o) ∧ ∃ es ck, w'.heap[blkOf _ _ _ _ j]? = _ ∧ _
      rw [bout j hj]
      refine ⟨fun o p => ?_, es, ck, by rw [← a2]; exact row j hj hh, a3, fun m e p a b => ⟨(a4 m e p a b).1, (a4 m e p a b).2.mono ext.pub⟩⟩
      rcases he.pubnew _ _ p with q | q | ⟨i, q1, q2⟩
      · exact a1 o q
      · have := hi.lt j hh; exact absurd this (Nat.not_lt.2 q)
      · obtain ⟨q3, q4⟩ := has0 i q1
        exact hj i (by omega) (hi.inj _ _ q4 hh q2)
end Go.Proofs.Ytmnhoglkahmlaaa.Ab
