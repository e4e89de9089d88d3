/- Names: valid, by the program. -/
import Derived.Test.YtmnhoglkahmlaaaX3
set_option linter.unusedSimpArgs false
set_option linter.unusedVariables false
set_option linter.unnecessarySimpa false
set_option linter.constructorNameAsVariable false
namespace Go.Proofs.Ytmnhoglkahmlaaa.Ab
open Go
theorem nameB_false (s : List UInt8) : (s.length < 1 → nameB s = false) ∧ (64 < s.length → nameB s = false) ∧ (1 ≤ s.length → isLet (chAt s 0) = false → nameB s = false) ∧ (keyB s = true → nameB s = false) ∧
    (∀ j, j < s.length → isLet (chAt s j) = false → isDig (chAt s j) = false → chAt s j ≠ 95 → nameB s = false) ∧
    (1 ≤ s.length → s.length ≤ 64 → isLet (chAt s 0) = true → keyB s = false → (∀ j, j < s.length → (isLet (chAt s j) || (isDig (chAt s j) || decide (chAt s j = 95))) = true) → nameB s = true) := by
  have hw : ∀ j, j < s.length → okAt s j = false → isWord s = false := fun j hj e => by
    rw [isWord, decide_eq_false_iff_not]
    intro ⟨_, q⟩
    rw [q j hj] at e; cases e
  refine ⟨fun h => ?_, fun h => ?_, fun h e => ?_, fun h => ?_, fun j hj e1 e2 e3 => ?_, fun h1 h2 e1 e2 q => ?_⟩
  · have : isWord s = false := by rw [isWord, decide_eq_false_iff_not]; intro ⟨q, _⟩; omega
    simp [nameB, this]
  · simp [nameB, show ¬ s.length ≤ 64 by omega]
  · simp [nameB, hw 0 (by omega) (by simp [okAt, e])]
  · simp [nameB, h]
  · simp [nameB, hw j hj (by simp [okAt, e1, e2, e3])]
  · have : isWord s = true := by
      rw [isWord, decide_eq_true_eq]
      refine ⟨by omega, fun j hj => ?_⟩
      have := q j hj
      by_cases h0 : j = 0
      · subst h0; simp [okAt, e1]
      · simpa [okAt, h0] using this
    simp [nameB, this, h2, e2]
set_option maxRecDepth 100000 in
set_option maxHeartbeats 1000000 in
theorem ok69 (s : List UInt8) : Plain Try.prog 69 [.str s] (.bool (nameB s)) := okOf mixed p69 fun A P hA hP => (by
  obtain ⟨g1, g2, g3, g4, g5, g6⟩ := nameB_false s
  obtain ⟨r, hr⟩ : ∃ r, r = nameB s := ⟨_, rfl⟩
  rw [← hr] at g1 g2 g3 g4 g5 g6 ⊢
  obtain ⟨c0, hc0⟩ : ∃ c, c = (s.getD 0 0).toNat := ⟨_, rfl⟩
  have hch0 : chAt s 0 = (c0 : Int) := by rw [chAt, hc0]
  rw [hch0] at g3 g6
  obtain ⟨b0, hb0⟩ : ∃ b, b = isLet (c0 : Int) := ⟨_, rfl⟩
  have e90 := ok90 (c0 : Int)
  rw [← hb0] at g3 g6 e90
  have e91 := ok91 s
  obtain ⟨kb, hkb⟩ : ∃ b, b = keyB s := ⟨_, rfl⟩
  rw [← hkb] at g4 g6 e91
  clear hr hb0 hkb hch0
  cbv
  repeat' first | with_reducible rfl | with_reducible refine And.intro ?_ ?_ | with_reducible intro _ | ((with_reducible show goC _ _ _ _ _ _ _ _); cbv) | ((with_reducible show goOps _ _ _ _ _); cbv) | ((with_reducible show okWr _ _ = _); rfl) | ((with_reducible refine callK_eq hA hP ?_ ?_ ?_ (Wks.refl _) (fun _ _ => e90)); exact rfl; exact rfl; cbv) | ((with_reducible refine callK_eq hA hP ?_ ?_ ?_ (Wks.refl _) (fun _ _ => e91)); exact rfl; exact rfl; cbv) | ((with_reducible refine hA.six _ _ _ fun z6 c hz6 hc hc2 => ?_); (have e6 : c0 = c := (by rw [hc, hc0]; rfl)); subst e6; cbv) | ((with_reducible refine hA.fin_pl _ _ _ ?_); cbv) | ((with_reducible refine hA.len _ _ _ _ _ fun z hz hb => ?_); cbv) | ((with_reducible refine hA.slen _ _ _ _ _ fun z hz hb => ?_); cbv) | ((with_reducible refine hA.off _ _ _ _ fun b hb => ?_); cbv) | ((with_reducible refine hA.plus _ _ _ fun b hb => ?_); cbv) | ((with_reducible refine hA.rep _ _ _ fun ds m hds hm => ?_); cbv) | ((with_reducible refine hA.app _ _ _ _ _ ⟨?_, fun zs m hzs hm => ?_⟩); rotate_left; cbv) | ((with_reducible refine hA.app0 _ _ _ ⟨?_, fun m hm => ?_⟩); rotate_left; cbv) | ((with_reducible refine hA.slc _ _ _ _ _ ⟨?_, fun zs hzs => ?_⟩); rotate_left; cbv) | ((with_reducible refine hA.st _ _ _ _ _ ⟨?_, fun ds hds => ?_⟩); rotate_left; cbv) | ((with_reducible refine hA.alt _ _ (Or.inl ?_)); cbv) | ((with_reducible refine hA.appv _ _ _ _ _ _ ⟨?_, fun bb m ds hbb hm hds => ?_⟩); rotate_left; cbv) | ((with_reducible refine hA.vsl _ _ _ _ ⟨?_, fun m hm => ?_⟩); rotate_left; cbv) | ((with_reducible refine hA.six _ _ _ fun z6 c hz6 hc hc2 => ?_); cbv) | ((with_reducible refine hA.ssl _ _ _ _ ⟨?_, fun sl hsl => ?_⟩); rotate_left; cbv) | ((with_reducible refine hA.sapp _ _ _ ⟨?_, fun sl hsl => ?_⟩); rotate_left; cbv) | ((with_reducible refine hA.s2b _ _ fun es hes => ?_); cbv) | ((with_reducible refine hA.gb0 true _ ?_); cbv) | ((with_reducible refine hA.gb0 false _ ?_); cbv) | ((with_reducible refine hA.gb _ _ fun vb hvb => ?_); cbv) | ((with_reducible refine hA.mget _ _ _ _ ⟨fun mv hmv => ?_, fun hmv => ?_⟩) <;> cbv) | ((with_reducible refine hA.mset _ _ _ _ fun ml hml => ?_); cbv) | (simp only [hA.natLit, hA.natOf, hA.natCast]; cbv)
  all_goals try simp only [hA.add, hA.sub, hA.mul, hA.neg, hA.div, hA.mod, hA.mn, hA.mx, hA.eq, hA.lt, hA.le, hA.nat, hA.R, hA.lep, hA.ltp, hA.seq, inR, n_cast, Int.ofNat_eq_natCast, Option.getD_some, Option.getD_none] at *
  all_goals try (first
    | omega
    | (clear g1 g2 g3 g4 g5 g6 hc0; simp at *; omega)
    | (clear g1 g2 g3 g4 g5 g6; simp at *; grind; done))
  · have hfalse : r = false := by
      have q1 : (s.length : Int) < 1 ∨ 64 < (s.length : Int) ∨ (1 ≤ (s.length : Int) ∧ b0 = false) ∨ kb = true := by
        clear g1 g2 g3 g4 g5 g6
        simp at *
        grind
      rcases q1 with q | q | ⟨q, q'⟩ | q
      · exact g1 (by omega)
      · exact g2 (by omega)
      · exact g3 (by omega) q'
      · exact g4 q
    rw [hfalse]
  · have q1 : 1 ≤ (s.length : Int) ∧ (s.length : Int) ≤ 64 ∧ b0 = true ∧ kb = false := by
      clear g1 g2 g3 g4 g5 g6
      simp at *
      grind
    obtain ⟨q1, q2, q3, q4⟩ := q1
    refine hA.loopI (fun n st => ∃ i zz : Int, 0 ≤ i ∧ zz = s.length ∧ n + i = zz ∧ (∀ j : Nat, j < i → (isLet (chAt s j) || (isDig (chAt s j) || decide (chAt s j = 95))) = true) ∧ st = ⟨[(24, .int i), (23, .int zz), (2, .bool false), (0, .str s)], []⟩) s.length _
      (Weak.keep (env' := [(24, .int 0), (23, .int z), (2, .bool false), (0, .str s)]) ⟨rfl, rfl, rfl, rfl, trivial⟩) ⟨0, z, by omega, by omega, by omega, fun j hj => by omega, rfl⟩ ?_
    rintro n st K ⟨i, zz, h0, hz, h1, h2, rfl⟩ hK
    by_cases hin : i < zz
    · obtain ⟨cN, hcN⟩ : ∃ cN, cN = (s.getD i.toNat 0).toNat := ⟨_, rfl⟩
      have hch : chAt s i.toNat = (cN : Int) := by rw [chAt, hcN]
      have f90 := ok90 (cN : Int)
      have f92 := ok92 (cN : Int)
      have k5 := g5 i.toNat (by omega)
      rw [hch] at k5
      have k6 : (isLet (cN : Int) || (isDig (cN : Int) || decide ((cN : Int) = 95))) = true → ∀ s1, Weak (hpF []) s1 ⟨[(24, .int (i + 1)), (23, .int zz), (2, .bool false), (0, .str s)], []⟩ → K s1 := fun e s1 hw => by
        refine hK s1 (n - 1) _ (by omega) hw ⟨i + 1, zz, by omega, hz, by omega, fun j hj => ?_, rfl⟩
        by_cases hji : (j : Int) < i
        · exact h2 j hji
        · have : j = i.toNat := by omega
          rw [this, hch]; exact e
      obtain ⟨bl, hbl⟩ : ∃ b, b = isLet (cN : Int) := ⟨_, rfl⟩
      obtain ⟨bd, hbd⟩ : ∃ b, b = isDig (cN : Int) := ⟨_, rfl⟩
      rw [← hbl] at f90 k5 k6
      rw [← hbd] at f92 k5 k6
      clear hK h2 hbl hbd hch g1 g2 g3 g4 g5 g6 e90 e91 hvb q3 q4
      cbv
      repeat' first | with_reducible rfl | with_reducible refine And.intro ?_ ?_ | with_reducible intro _ | ((with_reducible show goC _ _ _ _ _ _ _ _); cbv) | ((with_reducible show goOps _ _ _ _ _); cbv) | ((with_reducible show okWr _ _ = _); rfl) | ((with_reducible refine callK_eq hA hP ?_ ?_ ?_ (Wks.refl _) (fun _ _ => f90)); exact rfl; exact rfl; cbv) | ((with_reducible refine callK_eq hA hP ?_ ?_ ?_ (Wks.refl _) (fun _ _ => f92)); exact rfl; exact rfl; cbv) | ((with_reducible refine hA.six _ _ _ fun z6 c hz6 hc hc2 => ?_); (have e6 : cN = c := (by rw [hc, hcN])); subst e6; cbv) | ((with_reducible refine hA.fin_pl _ _ _ ?_); cbv) | ((with_reducible refine hA.len _ _ _ _ _ fun z hz hb => ?_); cbv) | ((with_reducible refine hA.slen _ _ _ _ _ fun z hz hb => ?_); cbv) | ((with_reducible refine hA.off _ _ _ _ fun b hb => ?_); cbv) | ((with_reducible refine hA.plus _ _ _ fun b hb => ?_); cbv) | ((with_reducible refine hA.rep _ _ _ fun ds m hds hm => ?_); cbv) | ((with_reducible refine hA.app _ _ _ _ _ ⟨?_, fun zs m hzs hm => ?_⟩); rotate_left; cbv) | ((with_reducible refine hA.app0 _ _ _ ⟨?_, fun m hm => ?_⟩); rotate_left; cbv) | ((with_reducible refine hA.slc _ _ _ _ _ ⟨?_, fun zs hzs => ?_⟩); rotate_left; cbv) | ((with_reducible refine hA.st _ _ _ _ _ ⟨?_, fun ds hds => ?_⟩); rotate_left; cbv) | ((with_reducible refine hA.alt _ _ (Or.inl ?_)); cbv) | ((with_reducible refine hA.appv _ _ _ _ _ _ ⟨?_, fun bb m ds hbb hm hds => ?_⟩); rotate_left; cbv) | ((with_reducible refine hA.vsl _ _ _ _ ⟨?_, fun m hm => ?_⟩); rotate_left; cbv) | ((with_reducible refine hA.six _ _ _ fun z6 c hz6 hc hc2 => ?_); cbv) | ((with_reducible refine hA.ssl _ _ _ _ ⟨?_, fun sl hsl => ?_⟩); rotate_left; cbv) | ((with_reducible refine hA.sapp _ _ _ ⟨?_, fun sl hsl => ?_⟩); rotate_left; cbv) | ((with_reducible refine hA.s2b _ _ fun es hes => ?_); cbv) | ((with_reducible refine hA.gb0 true _ ?_); cbv) | ((with_reducible refine hA.gb0 false _ ?_); cbv) | ((with_reducible refine hA.gb _ _ fun vb hvb => ?_); cbv) | ((with_reducible refine hA.mget _ _ _ _ ⟨fun mv hmv => ?_, fun hmv => ?_⟩) <;> cbv) | ((with_reducible refine hA.mset _ _ _ _ fun ml hml => ?_); cbv) | (simp only [hA.natLit, hA.natOf, hA.natCast]; cbv)
      all_goals try simp only [hA.add, hA.sub, hA.mul, hA.neg, hA.div, hA.mod, hA.mn, hA.mx, hA.eq, hA.lt, hA.le, hA.nat, hA.R, hA.lep, hA.ltp, hA.seq, inR, n_cast, Int.ofNat_eq_natCast, Option.getD_some, Option.getD_none] at *
      all_goals first
        | omega
        | (refine k6 ?_ _ (Weak.keep ⟨rfl, rfl, rfl, rfl, trivial⟩); clear k6 k5 hcN hc; simp at *; grind; done)
        | (rw [k5 (by clear k6 k5 hcN; grind) (by clear k6 k5 hcN; grind) (by clear k6 k5 hcN; grind)]; done)
        | (clear k6 k5 hcN; simp at *; omega)
        | (clear k6 k5 hcN; grind; done)
        | (trace_state; fail)
    · have hr2 : r = true := g6 (by omega) (by omega) q3 q4 fun j hj => h2 j (by omega)
      clear hK h2 g1 g2 g3 g4 g5 g6
      cbv
      repeat' first | with_reducible rfl | with_reducible refine And.intro ?_ ?_ | with_reducible intro _ | ((with_reducible show goC _ _ _ _ _ _ _ _); cbv) | ((with_reducible show goOps _ _ _ _ _); cbv) | ((with_reducible show okWr _ _ = _); rfl) | (exfalso; simp only [hA.lt, hA.sub, decide_eq_true_eq, decide_eq_false_iff_not, n_cast] at *; omega) | ((with_reducible refine hA.fin_pl _ _ _ ?_); cbv) | ((with_reducible refine hA.len _ _ _ _ _ fun z hz hb => ?_); cbv) | ((with_reducible refine hA.slen _ _ _ _ _ fun z hz hb => ?_); cbv) | ((with_reducible refine hA.off _ _ _ _ fun b hb => ?_); cbv) | ((with_reducible refine hA.plus _ _ _ fun b hb => ?_); cbv) | ((with_reducible refine hA.rep _ _ _ fun ds m hds hm => ?_); cbv) | ((with_reducible refine hA.app _ _ _ _ _ ⟨?_, fun zs m hzs hm => ?_⟩); rotate_left; cbv) | ((with_reducible refine hA.app0 _ _ _ ⟨?_, fun m hm => ?_⟩); rotate_left; cbv) | ((with_reducible refine hA.slc _ _ _ _ _ ⟨?_, fun zs hzs => ?_⟩); rotate_left; cbv) | ((with_reducible refine hA.st _ _ _ _ _ ⟨?_, fun ds hds => ?_⟩); rotate_left; cbv) | ((with_reducible refine hA.alt _ _ (Or.inl ?_)); cbv) | ((with_reducible refine hA.appv _ _ _ _ _ _ ⟨?_, fun bb m ds hbb hm hds => ?_⟩); rotate_left; cbv) | ((with_reducible refine hA.vsl _ _ _ _ ⟨?_, fun m hm => ?_⟩); rotate_left; cbv) | ((with_reducible refine hA.six _ _ _ fun z6 c hz6 hc hc2 => ?_); cbv) | ((with_reducible refine hA.ssl _ _ _ _ ⟨?_, fun sl hsl => ?_⟩); rotate_left; cbv) | ((with_reducible refine hA.sapp _ _ _ ⟨?_, fun sl hsl => ?_⟩); rotate_left; cbv) | ((with_reducible refine hA.s2b _ _ fun es hes => ?_); cbv) | ((with_reducible refine hA.gb0 true _ ?_); cbv) | ((with_reducible refine hA.gb0 false _ ?_); cbv) | ((with_reducible refine hA.gb _ _ fun vb hvb => ?_); cbv) | ((with_reducible refine hA.mget _ _ _ _ ⟨fun mv hmv => ?_, fun hmv => ?_⟩) <;> cbv) | ((with_reducible refine hA.mset _ _ _ _ fun ml hml => ?_); cbv) | (simp only [hA.natLit, hA.natOf, hA.natCast]; cbv)
      all_goals try simp only [hA.add, hA.sub, hA.mul, hA.neg, hA.div, hA.mod, hA.mn, hA.mx, hA.eq, hA.lt, hA.le, hA.nat, hA.R, hA.lep, hA.ltp, hA.seq, inR, n_cast, Int.ofNat_eq_natCast, Option.getD_some, Option.getD_none] at *
      all_goals first
        | (rw [hr2]; done)
        | omega
        | (trace_state; fail))
end Go.Proofs.Ytmnhoglkahmlaaa.Ab
