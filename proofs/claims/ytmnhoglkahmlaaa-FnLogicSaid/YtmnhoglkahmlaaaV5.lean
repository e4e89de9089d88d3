/- Expressions: valid, by the specification and by the program. -/
import Derived.Test.YtmnhoglkahmlaaaV4
set_option linter.unusedSimpArgs false
set_option linter.unusedVariables false
set_option linter.unnecessarySimpa false
set_option linter.constructorNameAsVariable false
namespace Go.Proofs.Ytmnhoglkahmlaaa.Ab
open Go
set_option maxRecDepth 100000 in
theorem ok31 (l : List (Int × Int)) (es : List (List E)) (he : es = l.map orow) (hlen : es.length ≤ 1048576) (w : Int) : Plain Try.prog 31 [.e (.sl es), .int w] (.bool (exOk l w)) := okOf mixed p31 fun A P hA hP => (by
  have hl1 : es.length = l.length := by rw [he]; simp
  obtain ⟨b, hb⟩ : ∃ b, b = back l w l.length 1 := ⟨_, rfl⟩
  have h62 := fun i => ok62 l es he hlen l.length (Nat.le_refl _) i w
  rw [← hb] at h62
  obtain ⟨r, hr⟩ : ∃ r, r = exOk l w := ⟨_, rfl⟩
  rw [← hr]
  have hr2 : r = decide (0 ≤ w ∧ 1 ≤ es.length ∧ es.length ≤ 5000 ∧ b = 0) := by rw [hr, hb, hl1]; rfl
  clear hr hb
  cbv
  repeat' first | with_reducible rfl | with_reducible refine And.intro ?_ ?_ | ((with_reducible intro hcc); first | (cases hcc; done) | skip) | ((with_reducible show goC _ _ _ _ _ _ _ _); cbv) | ((with_reducible show goOps _ _ _ _ _); cbv) | ((with_reducible show okWr _ _ = _); rfl) | ((with_reducible refine callK_eq hA hP ?_ ?_ ?_ (Wks.refl _) (fun _ _ => h62 _ ?_)); exact rfl; exact rfl; cbv) | ((with_reducible refine hA.fin_pl _ _ _ ?_); cbv) | ((with_reducible refine hA.len _ _ _ _ _ fun z hz hb => ?_); cbv) | ((with_reducible refine hA.slen _ _ _ _ _ fun z hz hb => ?_); cbv) | ((with_reducible refine hA.off _ _ _ _ fun b hb => ?_); cbv) | ((with_reducible refine hA.plus _ _ _ fun b hb => ?_); cbv) | ((with_reducible refine hA.rep _ _ _ fun ds m hds hm => ?_); cbv) | ((with_reducible refine hA.app _ _ _ _ _ ⟨?_, fun zs m hzs hm => ?_⟩); rotate_left; cbv) | ((with_reducible refine hA.app0 _ _ _ ⟨?_, fun m hm => ?_⟩); rotate_left; cbv) | ((with_reducible refine hA.slc _ _ _ _ _ ⟨?_, fun zs hzs => ?_⟩); rotate_left; cbv) | ((with_reducible refine hA.st _ _ _ _ _ ⟨?_, fun ds hds => ?_⟩); rotate_left; cbv) | ((with_reducible refine hA.alt _ _ (Or.inl ?_)); cbv) | ((with_reducible refine hA.appv _ _ _ _ _ _ ⟨?_, fun bb m ds hbb hm hds => ?_⟩); rotate_left; cbv) | ((with_reducible refine hA.vsl _ _ _ _ ⟨?_, fun m hm => ?_⟩); rotate_left; cbv) | ((with_reducible refine hA.vcut _ _ _ _ ⟨?_, fun cs hcs => ?_⟩); rotate_left; cbv) | ((with_reducible refine hA.appw _ _ _ _ _ _ _ ⟨?_, fun bb m ds hbb hm hds => ?_⟩); rotate_left; cbv) | ((with_reducible refine hA.six _ _ _ fun z6 c hz6 hc hc2 => ?_); cbv) | ((with_reducible refine hA.ssl _ _ _ _ ⟨?_, fun sl hsl => ?_⟩); rotate_left; cbv) | ((with_reducible refine hA.sapp _ _ _ ⟨?_, fun sl hsl => ?_⟩); rotate_left; cbv) | ((with_reducible refine hA.s2b _ _ fun es hes => ?_); cbv) | ((with_reducible refine hA.gb0 true _ ?_); cbv) | ((with_reducible refine hA.gb0 false _ ?_); cbv) | ((with_reducible refine hA.gb _ _ fun vb hvb => ?_); cbv) | ((with_reducible refine hA.mget _ _ _ _ ⟨fun mv hmv => ?_, fun hmv => ?_⟩) <;> cbv) | ((with_reducible refine hA.mset _ _ _ _ fun ml hml => ?_); cbv) | (simp only [hA.natLit, hA.natOf, hA.natCast]; cbv)
  all_goals try simp only [hA.add, hA.sub, hA.mul, hA.neg, hA.div, hA.mod, hA.mn, hA.mx, hA.eq, hA.lt, hA.le, hA.nat, hA.R, hA.lep, hA.ltp, hA.seq, inR, n_cast, Int.ofNat_eq_natCast, Option.getD_some, Option.getD_none] at *
  all_goals first | omega | (simp at *; grind))
theorem fw_drop {w : Int} {l : List (Int × Int)} {i : Nat} {p : Int × Int} (h : l[i]? = some p) (x : Int) : fw w (l.drop i) x = if takes p w < 0 ∨ x < takes p w then -1 else fw w (l.drop (i + 1)) (x + 1 - takes p w) := by
  obtain ⟨a, b⟩ := List.getElem?_eq_some_iff.1 h
  rw [List.drop_eq_getElem_cons a, b]
  rfl
set_option maxRecDepth 100000 in
set_option maxHeartbeats 2000000 in
theorem ok33 (l : List (Int × Int)) (es : List (List E)) (he : es = l.map orow) (hlen : es.length ≤ 1048576) (w : Int) : Plain Try.prog 33 [.e (.sl es), .int w] (.bool (exOk l w)) := okOf mixed p33 fun A P hA hP => (by
  have hl1 : es.length = l.length := by rw [he]; simp
  obtain ⟨r, hr⟩ : ∃ r, r = exOk l w := ⟨_, rfl⟩
  rw [← hr]
  obtain ⟨c, hc⟩ : ∃ c : Bool, c = decide (fw w l 0 = 1) := ⟨_, rfl⟩
  have hr2 : r = (decide (es.length ≤ 5000 ∧ 0 ≤ w) && c) := by rw [hr, hc, hl1, exOk_fw]; by_cases a : l.length ≤ 5000 <;> by_cases b : 0 ≤ w <;> simp [a, b]
  clear hr
  cbv
  repeat' first | with_reducible rfl | with_reducible refine And.intro ?_ ?_ | ((with_reducible intro hcc); first | (cases hcc; done) | skip) | ((with_reducible show goC _ _ _ _ _ _ _ _); cbv) | ((with_reducible show goOps _ _ _ _ _); cbv) | ((with_reducible show okWr _ _ = _); rfl) | ((with_reducible refine hA.fin_pl _ _ _ ?_); cbv) | ((with_reducible refine hA.len _ _ _ _ _ fun z hz hb => ?_); cbv) | ((with_reducible refine hA.slen _ _ _ _ _ fun z hz hb => ?_); cbv) | ((with_reducible refine hA.off _ _ _ _ fun b hb => ?_); cbv) | ((with_reducible refine hA.plus _ _ _ fun b hb => ?_); cbv) | ((with_reducible refine hA.rep _ _ _ fun ds m hds hm => ?_); cbv) | ((with_reducible refine hA.app _ _ _ _ _ ⟨?_, fun zs m hzs hm => ?_⟩); rotate_left; cbv) | ((with_reducible refine hA.app0 _ _ _ ⟨?_, fun m hm => ?_⟩); rotate_left; cbv) | ((with_reducible refine hA.slc _ _ _ _ _ ⟨?_, fun zs hzs => ?_⟩); rotate_left; cbv) | ((with_reducible refine hA.st _ _ _ _ _ ⟨?_, fun ds hds => ?_⟩); rotate_left; cbv) | ((with_reducible refine hA.alt _ _ (Or.inl ?_)); cbv) | ((with_reducible refine hA.appv _ _ _ _ _ _ ⟨?_, fun bb m ds hbb hm hds => ?_⟩); rotate_left; cbv) | ((with_reducible refine hA.vsl _ _ _ _ ⟨?_, fun m hm => ?_⟩); rotate_left; cbv) | ((with_reducible refine hA.vcut _ _ _ _ ⟨?_, fun cs hcs => ?_⟩); rotate_left; cbv) | ((with_reducible refine hA.appw _ _ _ _ _ _ _ ⟨?_, fun bb m ds hbb hm hds => ?_⟩); rotate_left; cbv) | ((with_reducible refine hA.six _ _ _ fun z6 c hz6 hc hc2 => ?_); cbv) | ((with_reducible refine hA.ssl _ _ _ _ ⟨?_, fun sl hsl => ?_⟩); rotate_left; cbv) | ((with_reducible refine hA.sapp _ _ _ ⟨?_, fun sl hsl => ?_⟩); rotate_left; cbv) | ((with_reducible refine hA.s2b _ _ fun es hes => ?_); cbv) | ((with_reducible refine hA.gb0 true _ ?_); cbv) | ((with_reducible refine hA.gb0 false _ ?_); cbv) | ((with_reducible refine hA.gb _ _ fun vb hvb => ?_); cbv) | ((with_reducible refine hA.mget _ _ _ _ ⟨fun mv hmv => ?_, fun hmv => ?_⟩) <;> cbv) | ((with_reducible refine hA.mset _ _ _ _ fun ml hml => ?_); cbv) | (simp only [hA.natLit, hA.natOf, hA.natCast]; cbv)
  all_goals try simp only [hA.add, hA.sub, hA.mul, hA.neg, hA.div, hA.mod, hA.mn, hA.mx, hA.eq, hA.lt, hA.le, hA.nat, hA.R, hA.lep, hA.ltp, hA.seq, inR, n_cast, Int.ofNat_eq_natCast, Option.getD_some, Option.getD_none] at *
  all_goals try (first | omega | (clear hc; grind; done) | (clear hc; simp at *; grind; done))
  · have hrc : r = c := by clear hc; simp at *; grind
    refine hA.loopI (fun n s => ∃ i h : Int, 0 ≤ i ∧ n + i = es.length ∧ 0 ≤ h ∧ h ≤ i ∧ r = decide (fw w (l.drop i.toNat) h = 1) ∧
      s = ⟨[(18, .int i), (17, .int z), (16, .e (.sl es)), (5, .int h), (4, .bool false), (1, .int w)], []⟩) es.length _
      (Weak.keep (env' := [(18, .int 0), (17, .int _), (16, .e (.sl es)), (5, .int 0), (4, .bool false), (1, .int w)]) ⟨rfl, rfl, rfl, rfl, rfl, rfl, trivial⟩) ⟨0, 0, by omega, by omega, by omega, by omega, by rw [hrc, hc]; rfl, by rfl⟩ ?_
    rintro n s K ⟨i, h, h0, h1, h2, h3, h4, rfl⟩ hK
    by_cases hin : (0 : Int) ≤ i ∧ i < es.length
    · obtain ⟨⟨k, v⟩, e1, q1⟩ := row_op he hin
      rw [fw_drop q1] at h4
      obtain ⟨F, hF⟩ : ∃ F : Int → Bool, ∀ x, F x = decide (fw w (l.drop (i.toNat + 1)) x = 1) := ⟨_, fun _ => rfl⟩
      have h5 : r = if takes (k, v) w < 0 ∨ h < takes (k, v) w then false else F (h + 1 - takes (k, v) w) := by
        rw [h4, hF]; split <;> simp
      obtain ⟨tk, htk⟩ : ∃ tk, tk = takes (k, v) w := ⟨_, rfl⟩
      rw [← htk] at h5
      have f1 : tk < 0 → r = false := fun a => by rw [h5, if_pos (.inl a)]
      have f2 : h < tk → r = false := fun a => by rw [h5, if_pos (.inr a)]
      have hK2 : ∀ hh : Int, 0 ≤ tk → tk ≤ h → hh = h + 1 - tk → ∀ s1, Weak (hpF []) s1 ⟨[(18, .int (i + 1)), (17, .int z), (16, .e (.sl es)), (5, .int hh), (4, .bool false), (1, .int w)], []⟩ → K s1 := fun hh a b c s1 d => by
        refine hK s1 (n - 1) _ (by omega) d ⟨i + 1, hh, by omega, by omega, by omega, by omega, ?_, rfl⟩
        have : (i + 1).toNat = i.toNat + 1 := by omega
        rw [h5, if_neg (by omega), hF, this, c]
      have t1 : k = 1 → tk = 0 := fun e => by simp [htk, takes, e]
      have t2 : k = 2 → tk = if v = 0 then 0 else -1 := fun e => by simp [htk, takes, e]
      have t3 : k = 3 → tk = if 0 ≤ v ∧ v < w then 0 else -1 := fun e => by simp [htk, takes, e]
      have t4 : k = 4 → tk = if 1 ≤ v ∧ v ≤ 6 then 2 else -1 := fun e => by simp [htk, takes, e]
      have t5 : k = 5 ∨ k = 6 → tk = if v = 0 then 2 else -1 := fun e => by rcases e with e | e <;> simp [htk, takes, e]
      have t6 : k = 7 ∨ k = 8 → tk = if v = 0 then 1 else -1 := fun e => by rcases e with e | e <;> simp [htk, takes, e]
      have t7 : k < 1 ∨ 8 < k → tk = -1 := fun e => by simp only [htk, takes]; repeat (rw [if_neg (by omega)])
      clear hK hF h4 hr2 hrc hc h5 htk
      cbv
      repeat' first | with_reducible rfl | with_reducible refine And.intro ?_ ?_ | ((with_reducible intro hcc); first | (cases hcc; done) | skip) | ((with_reducible show goC _ _ _ _ _ _ _ _); cbv) | ((with_reducible show goOps _ _ _ _ _); cbv) | ((with_reducible show okWr _ _ = _); rfl) | ((with_reducible refine hA.row es _ _ ⟨hin, fun row hrow => ?_⟩); rw [e1] at hrow; subst hrow; cbv) | ((with_reducible refine hA.fin_pl _ _ _ ?_); cbv) | ((with_reducible refine hA.len _ _ _ _ _ fun z hz hb => ?_); cbv) | ((with_reducible refine hA.slen _ _ _ _ _ fun z hz hb => ?_); cbv) | ((with_reducible refine hA.off _ _ _ _ fun b hb => ?_); cbv) | ((with_reducible refine hA.plus _ _ _ fun b hb => ?_); cbv) | ((with_reducible refine hA.rep _ _ _ fun ds m hds hm => ?_); cbv) | ((with_reducible refine hA.app _ _ _ _ _ ⟨?_, fun zs m hzs hm => ?_⟩); rotate_left; cbv) | ((with_reducible refine hA.app0 _ _ _ ⟨?_, fun m hm => ?_⟩); rotate_left; cbv) | ((with_reducible refine hA.slc _ _ _ _ _ ⟨?_, fun zs hzs => ?_⟩); rotate_left; cbv) | ((with_reducible refine hA.st _ _ _ _ _ ⟨?_, fun ds hds => ?_⟩); rotate_left; cbv) | ((with_reducible refine hA.alt _ _ (Or.inl ?_)); cbv) | ((with_reducible refine hA.appv _ _ _ _ _ _ ⟨?_, fun bb m ds hbb hm hds => ?_⟩); rotate_left; cbv) | ((with_reducible refine hA.vsl _ _ _ _ ⟨?_, fun m hm => ?_⟩); rotate_left; cbv) | ((with_reducible refine hA.vcut _ _ _ _ ⟨?_, fun cs hcs => ?_⟩); rotate_left; cbv) | ((with_reducible refine hA.appw _ _ _ _ _ _ _ ⟨?_, fun bb m ds hbb hm hds => ?_⟩); rotate_left; cbv) | ((with_reducible refine hA.six _ _ _ fun z6 c hz6 hc hc2 => ?_); cbv) | ((with_reducible refine hA.ssl _ _ _ _ ⟨?_, fun sl hsl => ?_⟩); rotate_left; cbv) | ((with_reducible refine hA.sapp _ _ _ ⟨?_, fun sl hsl => ?_⟩); rotate_left; cbv) | ((with_reducible refine hA.s2b _ _ fun es hes => ?_); cbv) | ((with_reducible refine hA.gb0 true _ ?_); cbv) | ((with_reducible refine hA.gb0 false _ ?_); cbv) | ((with_reducible refine hA.gb _ _ fun vb hvb => ?_); cbv) | ((with_reducible refine hA.mget _ _ _ _ ⟨fun mv hmv => ?_, fun hmv => ?_⟩) <;> cbv) | ((with_reducible refine hA.mset _ _ _ _ fun ml hml => ?_); cbv) | (simp only [hA.natLit, hA.natOf, hA.natCast]; cbv)
      all_goals try simp only [hA.add, hA.sub, hA.mul, hA.neg, hA.div, hA.mod, hA.mn, hA.mx, hA.eq, hA.lt, hA.le, hA.nat, hA.R, hA.lep, hA.ltp, hA.seq, inR, n_cast, Int.ofNat_eq_natCast, Option.getD_some, Option.getD_none] at *
      all_goals first
        | omega
        | (clear hK2; grind; done)
        | (clear hK2; simp at *; grind; done)
        | (refine hK2 _ ?_ ?_ ?_ _ (Weak.gc ⟨rfl, rfl, rfl, rfl, rfl, rfl, trivial⟩ rfl)
           all_goals clear hK2 hin e1 q1 hl1 hlen he h1
           all_goals first | grind | (simp at *; grind))
    · have : l.drop i.toNat = [] := by rw [List.drop_eq_nil_iff]; omega
      rw [this] at h4
      have h5 : r = decide (h = 1) := h4
      clear h4 hK
      cbv
      repeat' first | with_reducible rfl | with_reducible refine And.intro ?_ ?_ | ((with_reducible intro hcc); first | (cases hcc; done) | skip) | ((with_reducible show goC _ _ _ _ _ _ _ _); cbv) | ((with_reducible show goOps _ _ _ _ _); cbv) | ((with_reducible show okWr _ _ = _); rfl) | ((with_reducible refine hA.row0 _ _ _ fun p row => ?_); cbv) | ((with_reducible refine hA.fin_pl _ _ _ ?_); cbv) | ((with_reducible refine hA.len _ _ _ _ _ fun z hz hb => ?_); cbv) | ((with_reducible refine hA.slen _ _ _ _ _ fun z hz hb => ?_); cbv) | ((with_reducible refine hA.off _ _ _ _ fun b hb => ?_); cbv) | ((with_reducible refine hA.plus _ _ _ fun b hb => ?_); cbv) | ((with_reducible refine hA.rep _ _ _ fun ds m hds hm => ?_); cbv) | ((with_reducible refine hA.app _ _ _ _ _ ⟨?_, fun zs m hzs hm => ?_⟩); rotate_left; cbv) | ((with_reducible refine hA.app0 _ _ _ ⟨?_, fun m hm => ?_⟩); rotate_left; cbv) | ((with_reducible refine hA.slc _ _ _ _ _ ⟨?_, fun zs hzs => ?_⟩); rotate_left; cbv) | ((with_reducible refine hA.st _ _ _ _ _ ⟨?_, fun ds hds => ?_⟩); rotate_left; cbv) | ((with_reducible refine hA.alt _ _ (Or.inl ?_)); cbv) | ((with_reducible refine hA.appv _ _ _ _ _ _ ⟨?_, fun bb m ds hbb hm hds => ?_⟩); rotate_left; cbv) | ((with_reducible refine hA.vsl _ _ _ _ ⟨?_, fun m hm => ?_⟩); rotate_left; cbv) | ((with_reducible refine hA.vcut _ _ _ _ ⟨?_, fun cs hcs => ?_⟩); rotate_left; cbv) | ((with_reducible refine hA.appw _ _ _ _ _ _ _ ⟨?_, fun bb m ds hbb hm hds => ?_⟩); rotate_left; cbv) | ((with_reducible refine hA.six _ _ _ fun z6 c hz6 hc hc2 => ?_); cbv) | ((with_reducible refine hA.ssl _ _ _ _ ⟨?_, fun sl hsl => ?_⟩); rotate_left; cbv) | ((with_reducible refine hA.sapp _ _ _ ⟨?_, fun sl hsl => ?_⟩); rotate_left; cbv) | ((with_reducible refine hA.s2b _ _ fun es hes => ?_); cbv) | ((with_reducible refine hA.gb0 true _ ?_); cbv) | ((with_reducible refine hA.gb0 false _ ?_); cbv) | ((with_reducible refine hA.gb _ _ fun vb hvb => ?_); cbv) | ((with_reducible refine hA.mget _ _ _ _ ⟨fun mv hmv => ?_, fun hmv => ?_⟩) <;> cbv) | ((with_reducible refine hA.mset _ _ _ _ fun ml hml => ?_); cbv) | (simp only [hA.natLit, hA.natOf, hA.natCast]; cbv)
      all_goals try simp only [hA.add, hA.sub, hA.mul, hA.neg, hA.div, hA.mod, hA.mn, hA.mx, hA.eq, hA.lt, hA.le, hA.nat, hA.R, hA.lep, hA.ltp, hA.seq, inR, n_cast, Int.ofNat_eq_natCast, Option.getD_some, Option.getD_none] at *
      all_goals first
        | omega
        | (simp at *; grind; done)
        | (trace_state; fail))
end Go.Proofs.Ytmnhoglkahmlaaa.Ab
