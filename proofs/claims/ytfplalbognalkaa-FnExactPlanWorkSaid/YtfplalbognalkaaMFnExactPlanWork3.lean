/- The laws' helpers over rows of rows and tables: measured, copied, alike. -/
import Derived.Test.YtfplalbognalkaaMFnExactPlanWork2
set_option linter.unusedSimpArgs false
set_option linter.unusedVariables false
set_option linter.unnecessarySimpa false
set_option linter.constructorNameAsVariable false
namespace Go.Proofs.Ytfplalbognalkaa.Ab
open Go
abbrev rsr (r : List (Bool × Int)) : List E := [E.sl (r.map vr)]
abbrev Tb := List UInt8 × Int × List (List (Bool × Int))
abbrev tbr (t : Tb) : List E := [E.str t.1, E.int t.2.1, E.sl (t.2.2.map rsr)]
theorem row_at {α : Type} {f : α → List E} {l : List α} {es : List (List E)} (he : es = l.map f) {n : Int} (h : 0 ≤ n ∧ n < es.length) : ∃ p, es.getD n.toNat [] = f p ∧ l[n.toNat]? = some p := by
  subst he
  have hn : n.toNat < l.length := by simp at h; omega
  exact ⟨l[n.toNat], by simp [List.getD, hn], by simp [hn]⟩
/-- What is left of a budget; -1: it did not do. -/
def cut (left t : Int) : Int := if left - t < 0 then -1 else left - t
def sumC {α : Type} (c : α → Int) : List α → Int
  | [] => 0
  | a :: l => c a + sumC c l
theorem sumC_nonneg {α : Type} {c : α → Int} (h : ∀ a, 0 ≤ c a) : ∀ l : List α, 0 ≤ sumC c l
  | [] => Int.le_refl _
  | a :: l => by have := h a; have := sumC_nonneg h l; simp only [sumC]; omega
theorem sumC_drop {α : Type} {c : α → Int} {l : List α} {i : Nat} {p : α} (h : l[i]? = some p) : sumC c (l.drop i) = c p + sumC c (l.drop (i + 1)) := by
  obtain ⟨a, b⟩ := List.getElem?_eq_some_iff.1 h
  rw [List.drop_eq_getElem_cons a, b]
  rfl
theorem sumC_mem {α : Type} {c : α → Int} (h : ∀ a, 0 ≤ c a) {l : List α} {p : α} (hp : p ∈ l) : c p ≤ sumC c l := by
  induction l with
  | nil => cases hp
  | cons a l ih =>
    simp only [sumC]
    have := h a
    have := sumC_nonneg h l
    rcases List.mem_cons.1 hp with rfl | hp
    · omega
    · have := ih hp; omega
def cV (r : List (Bool × Int)) : Int := r.length
theorem cV_nonneg (r : List (Bool × Int)) : 0 ≤ cV r := by unfold cV; omega
def cSS (rs : List (List (Bool × Int))) : Int := rs.length + sumC cV rs
theorem cSS_nonneg (rs : List (List (Bool × Int))) : 0 ≤ cSS rs := by have := sumC_nonneg cV_nonneg rs; unfold cSS; omega
def cT (t : Tb) : Int := t.1.length + cSS t.2.2
theorem cT_nonneg (t : Tb) : 0 ≤ cT t := by have := cSS_nonneg t.2.2; unfold cT; omega
def cTS (ts : List Tb) : Int := ts.length + sumC cT ts
theorem cTS_nonneg (ts : List Tb) : 0 ≤ cTS ts := by have := sumC_nonneg cT_nonneg ts; unfold cTS; omega
theorem ok57c (r : List (Bool × Int)) (x : List (List E)) (hx : x = r.map vr) (left : Int) (h : 0 ≤ left ∧ left ≤ 1048576) : Plain Try.prog 57 [.e (.sl x), .int left] (.int (cut left (cV r))) := by
  have := ok57 x left h
  rw [show x.length = r.length by rw [hx]; simp] at this
  exact this
set_option maxRecDepth 100000 in
theorem ok16 (l : List (List (Bool × Int))) (es : List (List E)) (he : es = l.map rsr) (left : Int) (h : 0 ≤ left ∧ left ≤ 1048576) : Plain Try.prog 16 [.e (.sl es), .int left] (.int (cut left (l.length + sumC cV l))) := okOf mixed p16 fun A P hA hP => (by
  have hl1 : es.length = l.length := by rw [he]; simp
  have hsn : ∀ l : List (List (Bool × Int)), 0 ≤ sumC cV l := sumC_nonneg cV_nonneg
  obtain ⟨r, hr⟩ : ∃ r, r = cut left (l.length + sumC cV l) := ⟨_, rfl⟩
  rw [← hr]
  have hr2 : r = cut (left - es.length) (sumC cV l) := by rw [hr, hl1, cut, cut]; congr 1 <;> (try apply propext) <;> omega
  clear hr
  cbv
  repeat' first | with_reducible rfl | with_reducible refine And.intro ?_ ?_ | ((with_reducible intro hcc); first | (cases hcc; done) | skip) | ((with_reducible first | show goC _ _ _ _ _ _ _ _ | show goOps _ _ _ _ _ | show goD _ _ _ _ _ _); cbv) | ((with_reducible show okWr _ _ = _); rfl) | ((with_reducible first | refine hA.fin_pl _ _ _ ?_ | refine hA.len _ _ _ _ _ fun z hz hb => ?_ | refine hA.off _ _ _ _ fun b hb => ?_); cbv) | ((with_reducible first | refine hA.sapp _ _ _ ⟨?_, fun sl hsl => ?_⟩); rotate_left; cbv) | (simp only [hA.lits]; cbv)
  all_goals try simp only [hA.ar, inR, n_cast, Int.ofNat_eq_natCast, Option.getD_some, Option.getD_none] at *
  all_goals try (first | omega | (have := hb trivial trivial trivial; omega) | (have : r = -1 := (by simp only [decide_eq_true_eq] at *; have := hsn l; rw [hr2]; unfold cut; split <;> omega); rw [this]; done))
  · refine hA.loopI (fun n s => ∃ (i lf : Int), 0 ≤ i ∧ n + i = es.length ∧ 0 ≤ lf ∧ lf ≤ 1048576 ∧ r = cut lf (sumC cV (l.drop i.toNat)) ∧
        s = ⟨[(5, .int i), (0, .e (.sl es)), (1, .int lf), (4, .int 0)], []⟩) es.length _
      (Weak.keep (env' := [(5, .int 0), (0, .e (.sl es)), (1, .int (left - z)), (4, .int 0)]) ⟨rfl, rfl, rfl, rfl, trivial⟩) ⟨0, left - z, by omega, by omega, by simp only [decide_eq_false_iff_not] at *; omega, by omega, (by rw [hr2, hz]; rfl), rfl⟩ ?_
    rintro n s K ⟨i, lf, h0, h1, h2, h3, h4, rfl⟩ hK
    clear hr2
    by_cases hin : (0 : Int) ≤ i ∧ i < es.length
    · obtain ⟨r1, e1, q1⟩ := row_at he hin
      obtain ⟨x1, hx1⟩ : ∃ x, x = r1.map vr := ⟨_, rfl⟩
      have e1 : es.getD i.toNat [] = [E.sl x1] := e1.trans (by rw [hx1])
      rw [sumC_drop q1] at h4
      obtain ⟨S, hS⟩ : ∃ S, S = sumC cV (l.drop (i.toNat + 1)) := ⟨_, rfl⟩
      have hS0 : 0 ≤ S := hS ▸ hsn _
      obtain ⟨c, hcost⟩ : ∃ c, c = cV r1 := ⟨_, rfl⟩
      have hc0 : 0 ≤ c := hcost ▸ cV_nonneg _
      have hc := ok57c r1 x1 hx1 lf ⟨h2, h3⟩
      rw [← hS, ← hcost] at h4
      rw [← hcost] at hc
      obtain ⟨u, hu⟩ : ∃ u, u = cut lf c := ⟨_, rfl⟩
      rw [← hu] at hc
      have e8 : (i + 1).toNat = i.toNat + 1 := by omega
      have g1 : u < 0 → r = -1 := fun a => by rw [h4]; unfold cut at hu ⊢; split at hu <;> split <;> omega
      have g2 : 0 ≤ u → r = cut u S ∧ u ≤ lf := fun a => by
        have hu2 : u = lf - c := by rw [hu] at a ⊢; unfold cut at a ⊢; split at a <;> split <;> omega
        refine ⟨?_, by omega⟩
        rw [h4, hu2]
        unfold cut
        rw [show lf - (c + S) = lf - c - S by omega]
      clear h4 hu hcost
      cbv
      repeat' first | with_reducible rfl | with_reducible refine And.intro ?_ ?_ | ((with_reducible intro hcc); first | (cases hcc; done) | skip) | ((with_reducible first | show goC _ _ _ _ _ _ _ _ | show goOps _ _ _ _ _ | show goD _ _ _ _ _ _); cbv) | ((with_reducible show okWr _ _ = _); rfl) | ((with_reducible first | refine callK_f hA hP hc ?_ ?_ ?_); exact rfl; exact rfl; cbv) | ((with_reducible refine hA.row es _ _ ⟨hin, fun row hrow => ?_⟩); rw [e1] at hrow; subst hrow; cbv) | ((with_reducible first | refine hA.fin_pl _ _ _ ?_ | refine hA.len _ _ _ _ _ fun z hz hb => ?_ | refine hA.off _ _ _ _ fun b hb => ?_); cbv) | ((with_reducible first | refine hA.sapp _ _ _ ⟨?_, fun sl hsl => ?_⟩); rotate_left; cbv) | (simp only [hA.lits]; cbv)
      all_goals try simp only [hA.ar, inR, n_cast, Int.ofNat_eq_natCast, Option.getD_some, Option.getD_none] at *
      all_goals first
        | omega
        | (clear hK g1 g2 he; simp at *; omega)
        | (rw [g1 (by clear hK g2; simp at *; omega)]; done)
        | (have hu0 : 0 ≤ u := (by clear hK; simp at *; omega)
           exact hK _ (n - 1) _ (by omega) (Weak.keep (env' := [(5, .int (i + 1)), (0, .e (.sl es)), (1, .int u), (4, .int 0)]) ⟨rfl, rfl, rfl, rfl, trivial⟩) ⟨i + 1, u, by omega, by omega, hu0, by have := (g2 hu0).2; omega, by rw [e8, ← hS]; exact (g2 hu0).1, rfl⟩)
        | (clear hK g1 g2 he; simp at *; omega)
        | (trace_state; fail)
    · have hd : l.drop i.toNat = [] := by rw [List.drop_eq_nil_iff]; omega
      rw [hd] at h4
      have h5 : r = lf := by rw [h4, sumC, cut, if_neg (by omega)]; omega
      clear h4 hK
      cbv
      repeat' first | with_reducible rfl | with_reducible refine And.intro ?_ ?_ | ((with_reducible intro hcc); first | (cases hcc; done) | skip) | ((with_reducible first | show goC _ _ _ _ _ _ _ _ | show goOps _ _ _ _ _ | show goD _ _ _ _ _ _); cbv) | ((with_reducible show okWr _ _ = _); rfl) | (exfalso; simp only [hA.lt, hA.sub, decide_eq_true_eq, decide_eq_false_iff_not, n_cast] at *; omega) | ((with_reducible first | refine hA.fin_pl _ _ _ ?_ | refine hA.len _ _ _ _ _ fun z hz hb => ?_ | refine hA.off _ _ _ _ fun b hb => ?_); cbv) | ((with_reducible first | refine hA.sapp _ _ _ ⟨?_, fun sl hsl => ?_⟩); rotate_left; cbv) | (simp only [hA.lits]; cbv)
      all_goals try simp only [hA.ar, inR, n_cast, Int.ofNat_eq_natCast, Option.getD_some, Option.getD_none] at *
      all_goals first
        | (rw [h5])
        | omega
        | (clear he; simp at *; omega)
        | (trace_state; fail))
set_option maxRecDepth 100000 in
set_option maxHeartbeats 1000000 in
theorem ok18 (l : List (List (Bool × Int))) (es : List (List E)) (he : es = l.map rsr) (hlen : es.length ≤ 1048576) (hb2 : ∀ r ∈ l, r.length ≤ 1048576) : Plain Try.prog 18 [.e (.sl es)] (.e (.sl es)) := okOf mixed p18 fun A P hA hP => (by
  have hl1 : es.length = l.length := by rw [he]; simp
  have hes : ∀ e ∈ es, e.length = 1 := by
    rw [he]
    intro e h
    obtain ⟨p, _, rfl⟩ := List.mem_map.1 h
    rfl
  cbv
  repeat' first | with_reducible rfl | with_reducible refine And.intro ?_ ?_ | ((with_reducible intro hcc); first | (cases hcc; done) | skip) | ((with_reducible first | show goC _ _ _ _ _ _ _ _ | show goOps _ _ _ _ _ | show goD _ _ _ _ _ _); cbv) | ((with_reducible show okWr _ _ = _); rfl) | ((with_reducible first | refine hA.fin_pl _ _ _ ?_ | refine hA.len _ _ _ _ _ fun z hz hb => ?_ | refine hA.off _ _ _ _ fun b hb => ?_ | refine hA.rep _ _ _ fun ds m hds hm => ?_ | refine hA.alt _ _ (Or.inl ?_)); cbv) | ((with_reducible first | refine hA.st _ _ _ _ _ ⟨?_, fun ds hds => ?_⟩ | refine hA.sapp _ _ _ ⟨?_, fun sl hsl => ?_⟩); rotate_left; cbv) | (simp only [hA.lits]; cbv)
  all_goals try simp only [hA.ar, inR, n_cast, Int.ofNat_eq_natCast, Option.getD_some, Option.getD_none] at *
  · omega
  · omega
  · refine hA.loopI (fun n s => ∃ (i : Int) (xs : List (List E)), 0 ≤ i ∧ n + i = es.length ∧ xs.length = es.length ∧ (∀ e ∈ xs, e.length = 1) ∧ (∀ j : Nat, j < i → xs[j]? = es[j]?) ∧
        s = ⟨[(4, .int i), (3, .bs 0 0 m 1), (2, .zs), (0, .e (.sl es))], [.box (xs.flatten.map .e)]⟩) es.length _
      (Weak.keep (env' := [(4, .int 0), (3, .bs 0 0 m 1), (2, .zs), (0, .e (.sl es))]) ⟨rfl, rfl, rfl, rfl, trivial⟩)
      ⟨0, List.replicate m [E.sl []], by omega, by omega, by simp; omega, by simp, fun j hj => by omega, by rw [← buf_zero, hm]; rw [hds]; rfl⟩ ?_
    rintro n s K ⟨i, xs, h0, h1, h2, h3, h4, rfl⟩ hK
    obtain ⟨ys, hys⟩ : ∃ ys, ys = xs.flatten.map D.e := ⟨_, rfl⟩
    have hyl : ys.length = xs.length * 1 := by rw [hys, List.length_map, flatten_len h3]
    rw [← hys]
    by_cases hin : (0 : Int) ≤ i ∧ i < es.length
    · obtain ⟨r1, e1, q1⟩ := row_at he hin
      obtain ⟨x1, hx1⟩ : ∃ x, x = r1.map vr := ⟨_, rfl⟩
      have e1 : es.getD i.toNat [] = [E.sl x1] := e1.trans (by rw [hx1])
      have hc := ok58 r1 x1 hx1 (by have := hb2 r1 (List.mem_of_getElem? q1); rw [hx1, List.length_map]; omega)
      have hrow0 : es[i.toNat]? = some (es.getD i.toNat []) := by
        have : i.toNat < es.length := by omega
        simp [List.getD, this]
      have hrl : (es.getD i.toNat []).length = 1 := hes _ (List.mem_of_getElem? hrow0)
      cbv
      repeat' first | with_reducible rfl | with_reducible refine And.intro ?_ ?_ | ((with_reducible intro hcc); first | (cases hcc; done) | skip) | ((with_reducible first | show goC _ _ _ _ _ _ _ _ | show goOps _ _ _ _ _ | show goD _ _ _ _ _ _); cbv) | ((with_reducible show okWr _ _ = _); rfl) | ((with_reducible first | refine callK_f hA hP hc ?_ ?_ ?_); exact rfl; exact rfl; cbv) | ((with_reducible refine hA.row es _ _ ⟨hin, fun row hrow => ?_⟩); rw [e1] at hrow; subst hrow; cbv) | ((with_reducible first | refine hA.fin_pl _ _ _ ?_ | refine hA.len _ _ _ _ _ fun z hz hb => ?_ | refine hA.off _ _ _ _ fun b hb => ?_ | refine hA.rep _ _ _ fun ds m hds hm => ?_ | refine hA.alt _ _ (Or.inl ?_)); cbv) | ((with_reducible first | refine hA.st _ _ _ _ _ ⟨?_, fun ds hds => ?_⟩ | refine hA.sapp _ _ _ ⟨?_, fun sl hsl => ?_⟩); rotate_left; cbv) | (simp only [hA.lits]; cbv)
      all_goals try simp only [hA.ar, inR, n_cast, Int.ofNat_eq_natCast, Option.getD_some, Option.getD_none] at *
      all_goals first
        | (show _ < (m : Int); omega)
        | omega
        | (clear hK h4 he; grind; done)
        | (have hb' : b = i.toNat * 1 := by omega
           refine hK _ (n - 1) _ (by omega) (Weak.keep (env' := [(4, .int (i + 1)), (3, .bs 0 0 m 1), (2, .zs), (0, .e (.sl es))]) ⟨rfl, rfl, rfl, rfl, trivial⟩)
             ⟨i + 1, xs.set i.toNat (es.getD i.toNat []), by omega, by omega, by simp [h2], fun e h => ?_, fun j hj => ?_, ?_⟩
           · rcases List.mem_or_eq_of_mem_set h with h | rfl
             · exact h3 e h
             · exact hrl
           · by_cases hji : (j : Int) < i
             · rw [List.getElem?_set_ne (show i.toNat ≠ j by omega)]; exact h4 j hji
             · have : j = i.toNat := by omega
               subst this
               rw [List.getElem?_set_self (show i.toNat < xs.length by omega), hrow0]
           · congr 2
             rw [hds, hys, hb']
             congr 1
             have q := buf_set (k := 1) (by omega) h3 (i := i.toNat) (show i.toNat < xs.length by omega) hrl
             rw [e1] at q ⊢
             exact q)
    · have hxe : xs = es := by
        refine List.ext_getElem? fun j => ?_
        by_cases hj : (j : Int) < i
        · exact h4 j hj
        · rw [List.getElem?_eq_none (by omega), List.getElem?_eq_none (by omega)]
      cbv
      repeat' first | with_reducible rfl | with_reducible refine And.intro ?_ ?_ | ((with_reducible intro hcc); first | (cases hcc; done) | skip) | ((with_reducible first | show goC _ _ _ _ _ _ _ _ | show goOps _ _ _ _ _ | show goD _ _ _ _ _ _); cbv) | ((with_reducible show okWr _ _ = _); rfl) | (exfalso; simp only [hA.lt, hA.sub, decide_eq_true_eq, decide_eq_false_iff_not, n_cast] at *; omega) | ((with_reducible refine hA.fin_bs (es := es) ?_ ?_ hes)) | ((with_reducible first | refine hA.fin_pl _ _ _ ?_ | refine hA.len _ _ _ _ _ fun z hz hb => ?_ | refine hA.off _ _ _ _ fun b hb => ?_ | refine hA.rep _ _ _ fun ds m hds hm => ?_ | refine hA.alt _ _ (Or.inl ?_)); cbv) | ((with_reducible first | refine hA.st _ _ _ _ _ ⟨?_, fun ds hds => ?_⟩ | refine hA.sapp _ _ _ ⟨?_, fun sl hsl => ?_⟩); rotate_left; cbv) | (simp only [hA.lits]; cbv)
      all_goals try simp only [hA.ar, inR, n_cast, Int.ofNat_eq_natCast, Option.getD_some, Option.getD_none] at *
      all_goals first
        | (rw [hys, hxe]; rfl)
        | omega
        | (clear hK h4 he; grind; done)
        | (trace_state; fail))
set_option maxRecDepth 100000 in
theorem ok19 (l l' : List (List (Bool × Int))) (es fs : List (List E)) (he : es = l.map rsr) (hf : fs = l'.map rsr) : Plain Try.prog 19 [.e (.sl es), .e (.sl fs)] (.bool (decide (l = l'))) := okOf mixed p19 fun A P hA hP => (by
  obtain ⟨r, hr⟩ : ∃ r : Bool, r = decide (l = l') := ⟨_, rfl⟩
  rw [← hr]
  have hl1 : es.length = l.length := by rw [he]; simp
  have hl2 : fs.length = l'.length := by rw [hf]; simp
  cbv
  repeat' first | with_reducible rfl | with_reducible refine And.intro ?_ ?_ | ((with_reducible intro hcc); first | (cases hcc; done) | skip) | ((with_reducible first | show goC _ _ _ _ _ _ _ _ | show goOps _ _ _ _ _ | show goD _ _ _ _ _ _); cbv) | ((with_reducible show okWr _ _ = _); rfl) | ((with_reducible first | refine hA.fin_pl _ _ _ ?_ | refine hA.len _ _ _ _ _ fun z hz hb => ?_ | refine hA.off _ _ _ _ fun b hb => ?_); cbv) | ((with_reducible first | refine hA.sapp _ _ _ ⟨?_, fun sl hsl => ?_⟩); rotate_left; cbv) | (simp only [hA.lits]; cbv)
  all_goals try simp only [hA.ar, inR, n_cast, Int.ofNat_eq_natCast, Option.getD_some, Option.getD_none] at *
  · have : l ≠ l' := fun e => by subst e; clear hr; grind
    rw [hr]; simp [this]
  · have hzz : es.length = fs.length := by clear hr; grind
    refine hA.loopI (fun n s => ∃ i : Int, 0 ≤ i ∧ n + i = l.length ∧ (∀ j : Nat, j < i → l[j]? = l'[j]?) ∧ s = ⟨[(5, .int i), (4, .bool false), (0, .e (.sl es)), (1, .e (.sl fs))], []⟩) l.length _ (Weak.keep (env' := [(5, .int 0), (4, .bool false), (0, .e (.sl es)), (1, .e (.sl fs))]) ⟨rfl, rfl, rfl, rfl, trivial⟩) ⟨0, by omega, by omega, fun j hj => by omega, rfl⟩ ?_
    rintro n s K ⟨i, h0, h1, h2, rfl⟩ hK
    by_cases hin : (0 : Int) ≤ i ∧ i < es.length
    · have hin2 : (0 : Int) ≤ i ∧ i < fs.length := by omega
      obtain ⟨r1, e1, q1⟩ := row_at he hin
      obtain ⟨r2, e2, q2⟩ := row_at hf hin2
      obtain ⟨x1, hx1⟩ : ∃ x, x = r1.map vr := ⟨_, rfl⟩
      have e1 : es.getD i.toNat [] = [E.sl x1] := e1.trans (by rw [hx1])
      obtain ⟨x2, hx2⟩ : ∃ x, x = r2.map vr := ⟨_, rfl⟩
      have e2 : fs.getD i.toNat [] = [E.sl x2] := e2.trans (by rw [hx2])
      have hc := ok59 r1 r2 x1 x2 hx1 hx2
      obtain ⟨c, hcc⟩ : ∃ c : Bool, c = decide ((r1 : List (Bool × Int)) = r2) := ⟨_, rfl⟩
      rw [← hcc] at hc
      have c1 : c = false → r = false := fun e => by
        rw [hr, decide_eq_false_iff_not]
        intro e'
        subst e'
        rw [q1] at q2
        cases q2
        rw [e] at hcc
        simp at hcc
      have c2 : c = true → l[i.toNat]? = l'[i.toNat]? := fun e => by
        rw [e] at hcc
        rw [q1, q2, of_decide_eq_true hcc.symm]
      clear hcc hr
      cbv
      repeat' first | with_reducible rfl | with_reducible refine And.intro ?_ ?_ | ((with_reducible intro hcc); first | (cases hcc; done) | skip) | ((with_reducible first | show goC _ _ _ _ _ _ _ _ | show goOps _ _ _ _ _ | show goD _ _ _ _ _ _); cbv) | ((with_reducible show okWr _ _ = _); rfl) | ((with_reducible first | refine callK_f hA hP hc ?_ ?_ ?_); exact rfl; exact rfl; cbv) | ((with_reducible refine hA.row es _ _ ⟨hin, fun row hrow => ?_⟩); rw [e1] at hrow; subst hrow; cbv) | ((with_reducible refine hA.row fs _ _ ⟨hin2, fun row hrow => ?_⟩); rw [e2] at hrow; subst hrow; cbv) | ((with_reducible first | refine hA.fin_pl _ _ _ ?_ | refine hA.len _ _ _ _ _ fun z hz hb => ?_ | refine hA.off _ _ _ _ fun b hb => ?_); cbv) | ((with_reducible first | refine hA.sapp _ _ _ ⟨?_, fun sl hsl => ?_⟩); rotate_left; cbv) | (simp only [hA.lits]; cbv)
      all_goals try simp only [hA.ar, inR, n_cast, Int.ofNat_eq_natCast, Option.getD_some, Option.getD_none] at *
      all_goals first
        | omega
        | (refine hK _ (n - 1) _ (by omega) (Weak.gc (env' := [(5, .int (i + 1)), (4, .bool false), (0, .e (.sl es)), (1, .e (.sl fs))]) ⟨rfl, rfl, rfl, rfl, trivial⟩ rfl) ⟨i + 1, by omega, by omega, fun j hj => ?_, rfl⟩
           by_cases hji : (j : Int) < i
           · exact h2 j hji
           · have : j = i.toNat := by omega
             rw [this]
             exact c2 (by clear hK h2; grind))
        | (clear hK h2 he hf e1 e2; grind; done)
        | (trace_state; fail)
    · have hll : l = l' := by
        refine List.ext_getElem? fun j => ?_
        by_cases hj : (j : Int) < i
        · exact h2 j hj
        · rw [List.getElem?_eq_none (by omega), List.getElem?_eq_none (by omega)]
      have hr2 : r = true := by rw [hr, hll]; simp
      clear hr
      cbv
      repeat' first | with_reducible rfl | with_reducible refine And.intro ?_ ?_ | ((with_reducible intro hcc); first | (cases hcc; done) | skip) | ((with_reducible first | show goC _ _ _ _ _ _ _ _ | show goOps _ _ _ _ _ | show goD _ _ _ _ _ _); cbv) | ((with_reducible show okWr _ _ = _); rfl) | (exfalso; simp only [hA.lt, hA.sub, decide_eq_true_eq, decide_eq_false_iff_not, n_cast] at *; omega) | ((with_reducible first | refine hA.fin_pl _ _ _ ?_ | refine hA.len _ _ _ _ _ fun z hz hb => ?_ | refine hA.off _ _ _ _ fun b hb => ?_); cbv) | ((with_reducible first | refine hA.sapp _ _ _ ⟨?_, fun sl hsl => ?_⟩); rotate_left; cbv) | (simp only [hA.lits]; cbv)
      all_goals try simp only [hA.ar, inR, n_cast, Int.ofNat_eq_natCast, Option.getD_some, Option.getD_none] at *
      all_goals first
        | (rw [hr2])
        | omega
        | (clear hK h2 hll he hf; grind; done)
        | (trace_state; fail))
set_option maxRecDepth 100000 in
theorem ok127 (n1 : List UInt8) (c1 : Int) (rs : List (List (Bool × Int))) (x : List (List E)) (hx : x = rs.map rsr) (left : Int) (h : 0 ≤ left ∧ left ≤ 1048576) : Plain Try.prog 127 [.agg [.str n1, .int c1, .e (.sl x)], .int left] (.int (cut left (cT (n1, c1, rs)))) := okOf mixed p127 fun A P hA hP => (by
  obtain ⟨a, ha⟩ : ∃ a : Int, a = left - n1.length := ⟨_, rfl⟩
  obtain ⟨r, hr⟩ : ∃ r, r = cut left (cT (n1, c1, rs)) := ⟨_, rfl⟩
  rw [← hr]
  have hs := cSS_nonneg rs
  have hr2 : r = if a - cSS rs < 0 then -1 else a - cSS rs := by rw [hr, cut, cT, show left - ((n1.length : Int) + cSS rs) = a - cSS rs by omega]
  clear hr
  by_cases ha0 : a < 0
  · have hrr : r = -1 := by rw [hr2]; split <;> omega
    have hr2 : True := trivial
    cbv
    repeat' first | with_reducible rfl | with_reducible refine And.intro ?_ ?_ | ((with_reducible intro hcc); first | (cases hcc; done) | skip) | ((with_reducible first | show goC _ _ _ _ _ _ _ _ | show goOps _ _ _ _ _ | show goD _ _ _ _ _ _); cbv) | ((with_reducible show okWr _ _ = _); rfl) | (exfalso; simp only [hA.lt, hA.sub, decide_eq_true_eq, decide_eq_false_iff_not, n_cast] at *; omega) | ((with_reducible first | refine hA.fin_pl _ _ _ ?_ | refine hA.slen _ _ _ _ _ fun z hz hb => ?_); cbv) | (simp only [hA.lits]; cbv)
    all_goals try simp only [hA.ar, inR, n_cast, Int.ofNat_eq_natCast, Option.getD_some, Option.getD_none] at *
    all_goals first | omega | (rw [hrr]) | (clear hr2; simp at *; omega) | (trace_state; fail)
  · have h46 : ∀ b, b = a → Plain Try.prog 16 [.e (.sl x), .int b] (.int (cut a (cSS rs))) := fun b hb => hb ▸ ok16 rs _ hx a (by omega)
    obtain ⟨u, hu⟩ : ∃ u, u = cut a (cSS rs) := ⟨_, rfl⟩
    rw [← hu] at h46
    rw [cut] at hu
    rw [← hu] at hr2
    cbv
    repeat' first | with_reducible rfl | with_reducible refine And.intro ?_ ?_ | ((with_reducible intro hcc); first | (cases hcc; done) | skip) | ((with_reducible first | show goC _ _ _ _ _ _ _ _ | show goOps _ _ _ _ _ | show goD _ _ _ _ _ _); cbv) | ((with_reducible show okWr _ _ = _); rfl) | ((with_reducible refine callK_eq hA hP ?_ ?_ ?_ (Wks.refl _) (fun _ _ => h46 _ ?_)); exact rfl; exact rfl; cbv) | ((with_reducible first | refine hA.fin_pl _ _ _ ?_ | refine hA.slen _ _ _ _ _ fun z hz hb => ?_); cbv) | (simp only [hA.lits]; cbv)
    all_goals try simp only [hA.ar, inR, n_cast, Int.ofNat_eq_natCast, Option.getD_some, Option.getD_none] at *
    all_goals first | omega | (rw [hr2]; done) | (have : u = -1 := (by simp only [decide_eq_true_eq, decide_eq_false_iff_not] at *; split at hu <;> omega); rw [hr2, this]; done) | (clear h46; simp at *; omega) | (trace_state; fail))
set_option maxRecDepth 100000 in
theorem ok72 (l : List (Tb)) (es : List (List E)) (he : es = l.map tbr) (left : Int) (h : 0 ≤ left ∧ left ≤ 1048576) : Plain Try.prog 72 [.e (.sl es), .int left] (.int (cut left (l.length + sumC cT l))) := okOf mixed p72 fun A P hA hP => (by
  have hl1 : es.length = l.length := by rw [he]; simp
  have hsn : ∀ l : List (Tb), 0 ≤ sumC cT l := sumC_nonneg cT_nonneg
  obtain ⟨r, hr⟩ : ∃ r, r = cut left (l.length + sumC cT l) := ⟨_, rfl⟩
  rw [← hr]
  have hr2 : r = cut (left - es.length) (sumC cT l) := by rw [hr, hl1, cut, cut]; congr 1 <;> (try apply propext) <;> omega
  clear hr
  cbv
  repeat' first | with_reducible rfl | with_reducible refine And.intro ?_ ?_ | ((with_reducible intro hcc); first | (cases hcc; done) | skip) | ((with_reducible first | show goC _ _ _ _ _ _ _ _ | show goOps _ _ _ _ _ | show goD _ _ _ _ _ _); cbv) | ((with_reducible show okWr _ _ = _); rfl) | ((with_reducible first | refine hA.fin_pl _ _ _ ?_ | refine hA.len _ _ _ _ _ fun z hz hb => ?_ | refine hA.off _ _ _ _ fun b hb => ?_); cbv) | ((with_reducible first | refine hA.sapp _ _ _ ⟨?_, fun sl hsl => ?_⟩); rotate_left; cbv) | (simp only [hA.lits]; cbv)
  all_goals try simp only [hA.ar, inR, n_cast, Int.ofNat_eq_natCast, Option.getD_some, Option.getD_none] at *
  all_goals try (first | omega | (have := hb trivial trivial trivial; omega) | (have : r = -1 := (by simp only [decide_eq_true_eq] at *; have := hsn l; rw [hr2]; unfold cut; split <;> omega); rw [this]; done))
  · refine hA.loopI (fun n s => ∃ (i lf : Int), 0 ≤ i ∧ n + i = es.length ∧ 0 ≤ lf ∧ lf ≤ 1048576 ∧ r = cut lf (sumC cT (l.drop i.toNat)) ∧
        s = ⟨[(5, .int i), (0, .e (.sl es)), (1, .int lf), (4, .int 0)], []⟩) es.length _
      (Weak.keep (env' := [(5, .int 0), (0, .e (.sl es)), (1, .int (left - z)), (4, .int 0)]) ⟨rfl, rfl, rfl, rfl, trivial⟩) ⟨0, left - z, by omega, by omega, by simp only [decide_eq_false_iff_not] at *; omega, by omega, (by rw [hr2, hz]; rfl), rfl⟩ ?_
    rintro n s K ⟨i, lf, h0, h1, h2, h3, h4, rfl⟩ hK
    clear hr2
    by_cases hin : (0 : Int) ≤ i ∧ i < es.length
    · obtain ⟨⟨n1, c1, rs1⟩, e1, q1⟩ := row_at he hin
      obtain ⟨x1, hx1⟩ : ∃ x, x = rs1.map rsr := ⟨_, rfl⟩
      have e1 : es.getD i.toNat [] = [E.str n1, E.int c1, E.sl x1] := e1.trans (by rw [hx1])
      rw [sumC_drop q1] at h4
      obtain ⟨S, hS⟩ : ∃ S, S = sumC cT (l.drop (i.toNat + 1)) := ⟨_, rfl⟩
      have hS0 : 0 ≤ S := hS ▸ hsn _
      obtain ⟨c, hcost⟩ : ∃ c, c = cT (n1, c1, rs1) := ⟨_, rfl⟩
      have hc0 : 0 ≤ c := hcost ▸ cT_nonneg _
      have hc := ok127 n1 c1 rs1 x1 hx1 lf ⟨h2, h3⟩
      rw [← hS, ← hcost] at h4
      rw [← hcost] at hc
      obtain ⟨u, hu⟩ : ∃ u, u = cut lf c := ⟨_, rfl⟩
      rw [← hu] at hc
      have e8 : (i + 1).toNat = i.toNat + 1 := by omega
      have g1 : u < 0 → r = -1 := fun a => by rw [h4]; unfold cut at hu ⊢; split at hu <;> split <;> omega
      have g2 : 0 ≤ u → r = cut u S ∧ u ≤ lf := fun a => by
        have hu2 : u = lf - c := by rw [hu] at a ⊢; unfold cut at a ⊢; split at a <;> split <;> omega
        refine ⟨?_, by omega⟩
        rw [h4, hu2]
        unfold cut
        rw [show lf - (c + S) = lf - c - S by omega]
      clear h4 hu hcost
      cbv
      repeat' first | with_reducible rfl | with_reducible refine And.intro ?_ ?_ | ((with_reducible intro hcc); first | (cases hcc; done) | skip) | ((with_reducible first | show goC _ _ _ _ _ _ _ _ | show goOps _ _ _ _ _ | show goD _ _ _ _ _ _); cbv) | ((with_reducible show okWr _ _ = _); rfl) | ((with_reducible first | refine callK_f hA hP hc ?_ ?_ ?_); exact rfl; exact rfl; cbv) | ((with_reducible refine hA.row es _ _ ⟨hin, fun row hrow => ?_⟩); rw [e1] at hrow; subst hrow; cbv) | ((with_reducible first | refine hA.fin_pl _ _ _ ?_ | refine hA.len _ _ _ _ _ fun z hz hb => ?_ | refine hA.off _ _ _ _ fun b hb => ?_); cbv) | ((with_reducible first | refine hA.sapp _ _ _ ⟨?_, fun sl hsl => ?_⟩); rotate_left; cbv) | (simp only [hA.lits]; cbv)
      all_goals try simp only [hA.ar, inR, n_cast, Int.ofNat_eq_natCast, Option.getD_some, Option.getD_none] at *
      all_goals first
        | omega
        | (clear hK g1 g2 he; simp at *; omega)
        | (rw [g1 (by clear hK g2; simp at *; omega)]; done)
        | (have hu0 : 0 ≤ u := (by clear hK; simp at *; omega)
           exact hK _ (n - 1) _ (by omega) (Weak.keep (env' := [(5, .int (i + 1)), (0, .e (.sl es)), (1, .int u), (4, .int 0)]) ⟨rfl, rfl, rfl, rfl, trivial⟩) ⟨i + 1, u, by omega, by omega, hu0, by have := (g2 hu0).2; omega, by rw [e8, ← hS]; exact (g2 hu0).1, rfl⟩)
        | (clear hK g1 g2 he; simp at *; omega)
        | (trace_state; fail)
    · have hd : l.drop i.toNat = [] := by rw [List.drop_eq_nil_iff]; omega
      rw [hd] at h4
      have h5 : r = lf := by rw [h4, sumC, cut, if_neg (by omega)]; omega
      clear h4 hK
      cbv
      repeat' first | with_reducible rfl | with_reducible refine And.intro ?_ ?_ | ((with_reducible intro hcc); first | (cases hcc; done) | skip) | ((with_reducible first | show goC _ _ _ _ _ _ _ _ | show goOps _ _ _ _ _ | show goD _ _ _ _ _ _); cbv) | ((with_reducible show okWr _ _ = _); rfl) | (exfalso; simp only [hA.lt, hA.sub, decide_eq_true_eq, decide_eq_false_iff_not, n_cast] at *; omega) | ((with_reducible first | refine hA.fin_pl _ _ _ ?_ | refine hA.len _ _ _ _ _ fun z hz hb => ?_ | refine hA.off _ _ _ _ fun b hb => ?_); cbv) | ((with_reducible first | refine hA.sapp _ _ _ ⟨?_, fun sl hsl => ?_⟩); rotate_left; cbv) | (simp only [hA.lits]; cbv)
      all_goals try simp only [hA.ar, inR, n_cast, Int.ofNat_eq_natCast, Option.getD_some, Option.getD_none] at *
      all_goals first
        | (rw [h5])
        | omega
        | (clear he; simp at *; omega)
        | (trace_state; fail))
theorem ok28 (ts : List Tb) (x : List (List E)) (hx : x = ts.map tbr) (left : Int) (h : 0 ≤ left ∧ left ≤ 1048576) : Plain Try.prog 28 [.agg [.e (.sl x)], .int left] (.int (cut left (cTS ts))) := okOf mixed p28 fun A P hA hP => (by
  have h65 : Plain Try.prog 72 [.e (.sl x), .int left] (.int (cut left (cTS ts))) := ok72 ts _ hx left h
  obtain ⟨u, hu⟩ : ∃ u, u = cut left (cTS ts) := ⟨_, rfl⟩
  rw [← hu] at h65 ⊢
  have hu2 : u < 0 → u = -1 := fun a => by rw [hu, cut] at a ⊢; split at a <;> split <;> omega
  clear hu
  cbv
  repeat' first | with_reducible rfl | with_reducible refine And.intro ?_ ?_ | ((with_reducible intro hcc); first | (cases hcc; done) | skip) | ((with_reducible first | show goC _ _ _ _ _ _ _ _ | show goOps _ _ _ _ _ | show goD _ _ _ _ _ _); cbv) | ((with_reducible show okWr _ _ = _); rfl) | ((with_reducible first | refine callK_f hA hP h65 ?_ ?_ ?_); exact rfl; exact rfl; cbv) | ((with_reducible first | refine hA.fin_pl _ _ _ ?_); cbv) | (simp only [hA.lits]; cbv)
  all_goals try simp only [hA.ar, inR, n_cast, Int.ofNat_eq_natCast, Option.getD_some, Option.getD_none] at *
  all_goals first | rfl | omega | (rw [hu2 (by simp at *; omega)]) | (trace_state; fail))
set_option maxRecDepth 100000 in
theorem ok134 (n1 : List UInt8) (c1 : Int) (rs : List (List (Bool × Int))) (x : List (List E)) (hx : x = rs.map rsr) (h1 : rs.length ≤ 1048576) (h2 : ∀ r ∈ rs, r.length ≤ 1048576) : Plain Try.prog 134 [.agg [.str n1, .int c1, .e (.sl x)]] (.agg [.str n1, .int c1, .e (.sl x)]) := okOf mixed p134 fun A P hA hP => (by
  have h48 := ok18 rs x hx (by rw [hx, List.length_map]; exact h1) h2
  cbv
  repeat' first | with_reducible rfl | with_reducible refine And.intro ?_ ?_ | ((with_reducible intro hcc); first | (cases hcc; done) | skip) | ((with_reducible first | show goC _ _ _ _ _ _ _ _ | show goOps _ _ _ _ _ | show goD _ _ _ _ _ _); cbv) | ((with_reducible show okWr _ _ = _); rfl) | ((with_reducible first | refine callK_f hA hP h48 ?_ ?_ ?_); exact rfl; exact rfl; cbv) | ((with_reducible first | refine hA.fin_pl _ _ _ ?_); cbv) | ((with_reducible first | refine hA.st _ _ _ _ _ ⟨?_, fun ds hds => ?_⟩); rotate_left; cbv) | (simp only [hA.lits]; cbv)
  all_goals try simp only [hA.ar, inR, n_cast, Int.ofNat_eq_natCast, Option.getD_some, Option.getD_none] at *
  )
set_option maxRecDepth 100000 in
set_option maxHeartbeats 1000000 in
theorem ok76 (l : List (Tb)) (es : List (List E)) (he : es = l.map tbr) (hlen : es.length ≤ 1048576) (hb2 : ∀ t ∈ l, t.2.2.length ≤ 1048576 ∧ ∀ r ∈ t.2.2, r.length ≤ 1048576) : Plain Try.prog 76 [.e (.sl es)] (.e (.sl es)) := okOf mixed p76 fun A P hA hP => (by
  have hl1 : es.length = l.length := by rw [he]; simp
  have hes : ∀ e ∈ es, e.length = 3 := by
    rw [he]
    intro e h
    obtain ⟨p, _, rfl⟩ := List.mem_map.1 h
    rfl
  cbv
  repeat' first | with_reducible rfl | with_reducible refine And.intro ?_ ?_ | ((with_reducible intro hcc); first | (cases hcc; done) | skip) | ((with_reducible first | show goC _ _ _ _ _ _ _ _ | show goOps _ _ _ _ _ | show goD _ _ _ _ _ _); cbv) | ((with_reducible show okWr _ _ = _); rfl) | ((with_reducible first | refine hA.fin_pl _ _ _ ?_ | refine hA.len _ _ _ _ _ fun z hz hb => ?_ | refine hA.off _ _ _ _ fun b hb => ?_ | refine hA.rep _ _ _ fun ds m hds hm => ?_ | refine hA.alt _ _ (Or.inl ?_)); cbv) | ((with_reducible first | refine hA.st _ _ _ _ _ ⟨?_, fun ds hds => ?_⟩ | refine hA.sapp _ _ _ ⟨?_, fun sl hsl => ?_⟩); rotate_left; cbv) | (simp only [hA.lits]; cbv)
  all_goals try simp only [hA.ar, inR, n_cast, Int.ofNat_eq_natCast, Option.getD_some, Option.getD_none] at *
  · omega
  · omega
  · refine hA.loopI (fun n s => ∃ (i : Int) (xs : List (List E)), 0 ≤ i ∧ n + i = es.length ∧ xs.length = es.length ∧ (∀ e ∈ xs, e.length = 3) ∧ (∀ j : Nat, j < i → xs[j]? = es[j]?) ∧
        s = ⟨[(4, .int i), (3, .bs 0 0 m 3), (2, .zs), (0, .e (.sl es))], [.box (xs.flatten.map .e)]⟩) es.length _
      (Weak.keep (env' := [(4, .int 0), (3, .bs 0 0 m 3), (2, .zs), (0, .e (.sl es))]) ⟨rfl, rfl, rfl, rfl, trivial⟩)
      ⟨0, List.replicate m [E.str [], E.int 0, E.sl []], by omega, by omega, by simp; omega, by simp, fun j hj => by omega, by rw [← buf_zero, hm]; rw [hds]; rfl⟩ ?_
    rintro n s K ⟨i, xs, h0, h1, h2, h3, h4, rfl⟩ hK
    obtain ⟨ys, hys⟩ : ∃ ys, ys = xs.flatten.map D.e := ⟨_, rfl⟩
    have hyl : ys.length = xs.length * 3 := by rw [hys, List.length_map, flatten_len h3]
    rw [← hys]
    by_cases hin : (0 : Int) ≤ i ∧ i < es.length
    · obtain ⟨⟨n1, c1, rs1⟩, e1, q1⟩ := row_at he hin
      obtain ⟨x1, hx1⟩ : ∃ x, x = rs1.map rsr := ⟨_, rfl⟩
      have e1 : es.getD i.toNat [] = [E.str n1, E.int c1, E.sl x1] := e1.trans (by rw [hx1])
      have hc := ok134 n1 c1 rs1 x1 hx1 (hb2 _ (List.mem_of_getElem? q1)).1 (hb2 _ (List.mem_of_getElem? q1)).2
      have hrow0 : es[i.toNat]? = some (es.getD i.toNat []) := by
        have : i.toNat < es.length := by omega
        simp [List.getD, this]
      have hrl : (es.getD i.toNat []).length = 3 := hes _ (List.mem_of_getElem? hrow0)
      cbv
      repeat' first | with_reducible rfl | with_reducible refine And.intro ?_ ?_ | ((with_reducible intro hcc); first | (cases hcc; done) | skip) | ((with_reducible first | show goC _ _ _ _ _ _ _ _ | show goOps _ _ _ _ _ | show goD _ _ _ _ _ _); cbv) | ((with_reducible show okWr _ _ = _); rfl) | ((with_reducible first | refine callK_f hA hP hc ?_ ?_ ?_); exact rfl; exact rfl; cbv) | ((with_reducible refine hA.row es _ _ ⟨hin, fun row hrow => ?_⟩); rw [e1] at hrow; subst hrow; cbv) | ((with_reducible first | refine hA.fin_pl _ _ _ ?_ | refine hA.len _ _ _ _ _ fun z hz hb => ?_ | refine hA.off _ _ _ _ fun b hb => ?_ | refine hA.rep _ _ _ fun ds m hds hm => ?_ | refine hA.alt _ _ (Or.inl ?_)); cbv) | ((with_reducible first | refine hA.st _ _ _ _ _ ⟨?_, fun ds hds => ?_⟩ | refine hA.sapp _ _ _ ⟨?_, fun sl hsl => ?_⟩); rotate_left; cbv) | (simp only [hA.lits]; cbv)
      all_goals try simp only [hA.ar, inR, n_cast, Int.ofNat_eq_natCast, Option.getD_some, Option.getD_none] at *
      all_goals first
        | (show _ < (m : Int); omega)
        | omega
        | (clear hK h4 he; grind; done)
        | (have hb' : b = i.toNat * 3 := by omega
           refine hK _ (n - 1) _ (by omega) (Weak.keep (env' := [(4, .int (i + 1)), (3, .bs 0 0 m 3), (2, .zs), (0, .e (.sl es))]) ⟨rfl, rfl, rfl, rfl, trivial⟩)
             ⟨i + 1, xs.set i.toNat (es.getD i.toNat []), by omega, by omega, by simp [h2], fun e h => ?_, fun j hj => ?_, ?_⟩
           · rcases List.mem_or_eq_of_mem_set h with h | rfl
             · exact h3 e h
             · exact hrl
           · by_cases hji : (j : Int) < i
             · rw [List.getElem?_set_ne (show i.toNat ≠ j by omega)]; exact h4 j hji
             · have : j = i.toNat := by omega
               subst this
               rw [List.getElem?_set_self (show i.toNat < xs.length by omega), hrow0]
           · congr 2
             rw [hds, hys, hb']
             congr 1
             have q := buf_set (k := 3) (by omega) h3 (i := i.toNat) (show i.toNat < xs.length by omega) hrl
             rw [e1] at q ⊢
             exact q)
    · have hxe : xs = es := by
        refine List.ext_getElem? fun j => ?_
        by_cases hj : (j : Int) < i
        · exact h4 j hj
        · rw [List.getElem?_eq_none (by omega), List.getElem?_eq_none (by omega)]
      cbv
      repeat' first | with_reducible rfl | with_reducible refine And.intro ?_ ?_ | ((with_reducible intro hcc); first | (cases hcc; done) | skip) | ((with_reducible first | show goC _ _ _ _ _ _ _ _ | show goOps _ _ _ _ _ | show goD _ _ _ _ _ _); cbv) | ((with_reducible show okWr _ _ = _); rfl) | (exfalso; simp only [hA.lt, hA.sub, decide_eq_true_eq, decide_eq_false_iff_not, n_cast] at *; omega) | ((with_reducible refine hA.fin_bs (es := es) ?_ ?_ hes)) | ((with_reducible first | refine hA.fin_pl _ _ _ ?_ | refine hA.len _ _ _ _ _ fun z hz hb => ?_ | refine hA.off _ _ _ _ fun b hb => ?_ | refine hA.rep _ _ _ fun ds m hds hm => ?_ | refine hA.alt _ _ (Or.inl ?_)); cbv) | ((with_reducible first | refine hA.st _ _ _ _ _ ⟨?_, fun ds hds => ?_⟩ | refine hA.sapp _ _ _ ⟨?_, fun sl hsl => ?_⟩); rotate_left; cbv) | (simp only [hA.lits]; cbv)
      all_goals try simp only [hA.ar, inR, n_cast, Int.ofNat_eq_natCast, Option.getD_some, Option.getD_none] at *
      all_goals first
        | (rw [hys, hxe]; rfl)
        | omega
        | (clear hK h4 he; grind; done)
        | (trace_state; fail))
theorem ok31 (ts : List Tb) (x : List (List E)) (hx : x = ts.map tbr) (h1 : ts.length ≤ 1048576) (h2 : ∀ t ∈ ts, t.2.2.length ≤ 1048576 ∧ ∀ r ∈ t.2.2, r.length ≤ 1048576) : Plain Try.prog 31 [.agg [.e (.sl x)]] (.agg [.e (.sl x)]) := okOf mixed p31 fun A P hA hP => (by
  have h68 := ok76 ts x hx (by rw [hx, List.length_map]; exact h1) h2
  cbv
  repeat' first | with_reducible rfl | with_reducible refine And.intro ?_ ?_ | ((with_reducible intro hcc); first | (cases hcc; done) | skip) | ((with_reducible first | show goC _ _ _ _ _ _ _ _ | show goOps _ _ _ _ _ | show goD _ _ _ _ _ _); cbv) | ((with_reducible show okWr _ _ = _); rfl) | ((with_reducible first | refine callK_f hA hP h68 ?_ ?_ ?_); exact rfl; exact rfl; cbv) | ((with_reducible first | refine hA.fin_pl _ _ _ ?_); cbv) | ((with_reducible first | refine hA.st _ _ _ _ _ ⟨?_, fun ds hds => ?_⟩); rotate_left; cbv) | (simp only [hA.lits]; cbv)
  all_goals try simp only [hA.ar, inR, n_cast, Int.ofNat_eq_natCast, Option.getD_some, Option.getD_none] at *
  )
set_option maxRecDepth 100000 in
theorem ok139 (n1 : List UInt8) (c1 : Int) (rs : List (List (Bool × Int))) (x : List (List E)) (hx : x = rs.map rsr) (n2 : List UInt8) (c2 : Int) (rs' : List (List (Bool × Int))) (x' : List (List E)) (hx' : x' = rs'.map rsr) :
    Plain Try.prog 139 [.agg [.str n1, .int c1, .e (.sl x)], .agg [.str n2, .int c2, .e (.sl x')]] (.bool (decide ((n1, c1, rs) = (n2, c2, rs')))) := okOf mixed p139 fun A P hA hP => (by
  have h49 := ok19 rs rs' x x' hx hx'
  obtain ⟨c, hc⟩ : ∃ c, c = decide (rs = rs') := ⟨_, rfl⟩
  rw [← hc] at h49
  obtain ⟨r, hr⟩ : ∃ r, r = decide ((n1, c1, rs) = (n2, c2, rs')) := ⟨_, rfl⟩
  rw [← hr]
  have hr2 : r = (decide (n1 = n2) && decide (c1 = c2) && c) := by rw [hr, hc]; by_cases a : n1 = n2 <;> by_cases b : c1 = c2 <;> simp [a, b]
  clear hr hc
  cbv
  repeat' first | with_reducible rfl | with_reducible refine And.intro ?_ ?_ | ((with_reducible intro hcc); first | (cases hcc; done) | skip) | ((with_reducible first | show goC _ _ _ _ _ _ _ _ | show goOps _ _ _ _ _ | show goD _ _ _ _ _ _); cbv) | ((with_reducible show okWr _ _ = _); rfl) | ((with_reducible first | refine callK_f hA hP h49 ?_ ?_ ?_); exact rfl; exact rfl; cbv) | ((with_reducible first | refine hA.fin_pl _ _ _ ?_); cbv) | (simp only [hA.lits]; cbv)
  all_goals try simp only [hA.ar, inR, n_cast, Int.ofNat_eq_natCast, Option.getD_some, Option.getD_none] at *
  all_goals first | rfl | (clear h49; grind; done) | (clear h49; simp at *; grind; done) | (trace_state; fail))
set_option maxRecDepth 100000 in
theorem ok79 (l l' : List (Tb)) (es fs : List (List E)) (he : es = l.map tbr) (hf : fs = l'.map tbr) : Plain Try.prog 79 [.e (.sl es), .e (.sl fs)] (.bool (decide (l = l'))) := okOf mixed p79 fun A P hA hP => (by
  obtain ⟨r, hr⟩ : ∃ r : Bool, r = decide (l = l') := ⟨_, rfl⟩
  rw [← hr]
  have hl1 : es.length = l.length := by rw [he]; simp
  have hl2 : fs.length = l'.length := by rw [hf]; simp
  cbv
  repeat' first | with_reducible rfl | with_reducible refine And.intro ?_ ?_ | ((with_reducible intro hcc); first | (cases hcc; done) | skip) | ((with_reducible first | show goC _ _ _ _ _ _ _ _ | show goOps _ _ _ _ _ | show goD _ _ _ _ _ _); cbv) | ((with_reducible show okWr _ _ = _); rfl) | ((with_reducible first | refine hA.fin_pl _ _ _ ?_ | refine hA.len _ _ _ _ _ fun z hz hb => ?_ | refine hA.off _ _ _ _ fun b hb => ?_); cbv) | ((with_reducible first | refine hA.sapp _ _ _ ⟨?_, fun sl hsl => ?_⟩); rotate_left; cbv) | (simp only [hA.lits]; cbv)
  all_goals try simp only [hA.ar, inR, n_cast, Int.ofNat_eq_natCast, Option.getD_some, Option.getD_none] at *
  · have : l ≠ l' := fun e => by subst e; clear hr; grind
    rw [hr]; simp [this]
  · have hzz : es.length = fs.length := by clear hr; grind
    refine hA.loopI (fun n s => ∃ i : Int, 0 ≤ i ∧ n + i = l.length ∧ (∀ j : Nat, j < i → l[j]? = l'[j]?) ∧ s = ⟨[(5, .int i), (4, .bool false), (0, .e (.sl es)), (1, .e (.sl fs))], []⟩) l.length _ (Weak.keep (env' := [(5, .int 0), (4, .bool false), (0, .e (.sl es)), (1, .e (.sl fs))]) ⟨rfl, rfl, rfl, rfl, trivial⟩) ⟨0, by omega, by omega, fun j hj => by omega, rfl⟩ ?_
    rintro n s K ⟨i, h0, h1, h2, rfl⟩ hK
    by_cases hin : (0 : Int) ≤ i ∧ i < es.length
    · have hin2 : (0 : Int) ≤ i ∧ i < fs.length := by omega
      obtain ⟨⟨n1, c1, rs1⟩, e1, q1⟩ := row_at he hin
      obtain ⟨⟨n2, c2, rs2⟩, e2, q2⟩ := row_at hf hin2
      obtain ⟨x1, hx1⟩ : ∃ x, x = rs1.map rsr := ⟨_, rfl⟩
      have e1 : es.getD i.toNat [] = [E.str n1, E.int c1, E.sl x1] := e1.trans (by rw [hx1])
      obtain ⟨x2, hx2⟩ : ∃ x, x = rs2.map rsr := ⟨_, rfl⟩
      have e2 : fs.getD i.toNat [] = [E.str n2, E.int c2, E.sl x2] := e2.trans (by rw [hx2])
      have hc := ok139 n1 c1 rs1 x1 hx1 n2 c2 rs2 x2 hx2
      obtain ⟨c, hcc⟩ : ∃ c : Bool, c = decide (((n1, c1, rs1) : Tb) = (n2, c2, rs2)) := ⟨_, rfl⟩
      rw [← hcc] at hc
      have c1 : c = false → r = false := fun e => by
        rw [hr, decide_eq_false_iff_not]
        intro e'
        subst e'
        rw [q1] at q2
        cases q2
        rw [e] at hcc
        simp at hcc
      have c2 : c = true → l[i.toNat]? = l'[i.toNat]? := fun e => by
        rw [e] at hcc
        rw [q1, q2, of_decide_eq_true hcc.symm]
      clear hcc hr
      cbv
      repeat' first | with_reducible rfl | with_reducible refine And.intro ?_ ?_ | ((with_reducible intro hcc); first | (cases hcc; done) | skip) | ((with_reducible first | show goC _ _ _ _ _ _ _ _ | show goOps _ _ _ _ _ | show goD _ _ _ _ _ _); cbv) | ((with_reducible show okWr _ _ = _); rfl) | ((with_reducible first | refine callK_f hA hP hc ?_ ?_ ?_); exact rfl; exact rfl; cbv) | ((with_reducible refine hA.row es _ _ ⟨hin, fun row hrow => ?_⟩); rw [e1] at hrow; subst hrow; cbv) | ((with_reducible refine hA.row fs _ _ ⟨hin2, fun row hrow => ?_⟩); rw [e2] at hrow; subst hrow; cbv) | ((with_reducible first | refine hA.fin_pl _ _ _ ?_ | refine hA.len _ _ _ _ _ fun z hz hb => ?_ | refine hA.off _ _ _ _ fun b hb => ?_); cbv) | ((with_reducible first | refine hA.sapp _ _ _ ⟨?_, fun sl hsl => ?_⟩); rotate_left; cbv) | (simp only [hA.lits]; cbv)
      all_goals try simp only [hA.ar, inR, n_cast, Int.ofNat_eq_natCast, Option.getD_some, Option.getD_none] at *
      all_goals first
        | omega
        | (refine hK _ (n - 1) _ (by omega) (Weak.gc (env' := [(5, .int (i + 1)), (4, .bool false), (0, .e (.sl es)), (1, .e (.sl fs))]) ⟨rfl, rfl, rfl, rfl, trivial⟩ rfl) ⟨i + 1, by omega, by omega, fun j hj => ?_, rfl⟩
           by_cases hji : (j : Int) < i
           · exact h2 j hji
           · have : j = i.toNat := by omega
             rw [this]
             exact c2 (by clear hK h2; grind))
        | (clear hK h2 he hf e1 e2; grind; done)
        | (trace_state; fail)
    · have hll : l = l' := by
        refine List.ext_getElem? fun j => ?_
        by_cases hj : (j : Int) < i
        · exact h2 j hj
        · rw [List.getElem?_eq_none (by omega), List.getElem?_eq_none (by omega)]
      have hr2 : r = true := by rw [hr, hll]; simp
      clear hr
      cbv
      repeat' first | with_reducible rfl | with_reducible refine And.intro ?_ ?_ | ((with_reducible intro hcc); first | (cases hcc; done) | skip) | ((with_reducible first | show goC _ _ _ _ _ _ _ _ | show goOps _ _ _ _ _ | show goD _ _ _ _ _ _); cbv) | ((with_reducible show okWr _ _ = _); rfl) | (exfalso; simp only [hA.lt, hA.sub, decide_eq_true_eq, decide_eq_false_iff_not, n_cast] at *; omega) | ((with_reducible first | refine hA.fin_pl _ _ _ ?_ | refine hA.len _ _ _ _ _ fun z hz hb => ?_ | refine hA.off _ _ _ _ fun b hb => ?_); cbv) | ((with_reducible first | refine hA.sapp _ _ _ ⟨?_, fun sl hsl => ?_⟩); rotate_left; cbv) | (simp only [hA.lits]; cbv)
      all_goals try simp only [hA.ar, inR, n_cast, Int.ofNat_eq_natCast, Option.getD_some, Option.getD_none] at *
      all_goals first
        | (rw [hr2])
        | omega
        | (clear hK h2 hll he hf; grind; done)
        | (trace_state; fail))
theorem ok34 (ts ts' : List Tb) (x x' : List (List E)) (hx : x = ts.map tbr) (hx' : x' = ts'.map tbr) : Plain Try.prog 34 [.agg [.e (.sl x)], .agg [.e (.sl x')]] (.bool (decide (ts = ts'))) := okOf mixed p34 fun A P hA hP => (by
  have h70 := ok79 ts ts' x x' hx hx'
  obtain ⟨c, hc⟩ : ∃ c, c = decide (ts = ts') := ⟨_, rfl⟩
  rw [← hc] at h70 ⊢
  cbv
  repeat' first | with_reducible rfl | with_reducible refine And.intro ?_ ?_ | ((with_reducible intro hcc); first | (cases hcc; done) | skip) | ((with_reducible first | show goC _ _ _ _ _ _ _ _ | show goOps _ _ _ _ _ | show goD _ _ _ _ _ _); cbv) | ((with_reducible show okWr _ _ = _); rfl) | ((with_reducible first | refine callK_f hA hP h70 ?_ ?_ ?_); exact rfl; exact rfl; cbv) | ((with_reducible first | refine hA.fin_pl _ _ _ ?_); cbv) | (simp only [hA.lits]; cbv)
  all_goals try simp only [hA.ar, inR, n_cast, Int.ofNat_eq_natCast, Option.getD_some, Option.getD_none] at *
  all_goals first | rfl | (clear h70 hc; grind; done) | (trace_state; fail))
end Go.Proofs.Ytfplalbognalkaa.Ab
/- Names: letters, digits, words, keys. -/
namespace Go.Proofs.Ytfplalbognalkaa.Ab
open Go
theorem ok192 (c : Int) : Plain Try.prog 192 [.u8 c] (.bool (isLet c)) := okOf mixed p192 fun A P hA hP => (by
  obtain ⟨r, hr⟩ : ∃ r, r = isLet c := ⟨_, rfl⟩
  rw [← hr]
  cbv
  repeat' first | with_reducible rfl | with_reducible refine And.intro ?_ ?_ | ((with_reducible intro hcc); first | (cases hcc; done) | skip) | ((with_reducible first | show goC _ _ _ _ _ _ _ _ | show goOps _ _ _ _ _ | show goD _ _ _ _ _ _); cbv) | ((with_reducible show okWr _ _ = _); rfl) | ((with_reducible first | refine hA.fin_pl _ _ _ ?_ | refine hA.gb0 true _ ?_ | refine hA.gb0 false _ ?_ | refine hA.gb _ _ fun vb hvb => ?_); cbv) | (simp only [hA.lits]; cbv)
  all_goals try simp only [hA.ar, inR, n_cast, Int.ofNat_eq_natCast, Option.getD_some, Option.getD_none] at *
  all_goals (unfold isLet at hr; first | (subst hr; grind; done) | (subst hr; simp at *; grind; done) | (subst hr; congr; by_cases a : 97 ≤ c <;> by_cases b : 65 ≤ c <;> simp [a, b] <;> grind)))
theorem ok166 (c : Int) : Plain Try.prog 166 [.u8 c] (.bool (isLet c)) := okOf mixed p166 fun A P hA hP => (by
  obtain ⟨r, hr⟩ : ∃ r, r = isLet c := ⟨_, rfl⟩
  rw [← hr]
  cbv
  repeat' first | with_reducible rfl | with_reducible refine And.intro ?_ ?_ | ((with_reducible intro hcc); first | (cases hcc; done) | skip) | ((with_reducible first | show goC _ _ _ _ _ _ _ _ | show goOps _ _ _ _ _ | show goD _ _ _ _ _ _); cbv) | ((with_reducible show okWr _ _ = _); rfl) | ((with_reducible first | refine hA.fin_pl _ _ _ ?_ | refine hA.gb0 true _ ?_ | refine hA.gb0 false _ ?_ | refine hA.gb _ _ fun vb hvb => ?_); cbv) | (simp only [hA.lits]; cbv)
  all_goals try simp only [hA.ar, inR, n_cast, Int.ofNat_eq_natCast, Option.getD_some, Option.getD_none] at *
  all_goals (unfold isLet at hr; first | (subst hr; grind; done) | (subst hr; simp at *; grind; done) | (subst hr; congr; by_cases a : 97 ≤ c <;> by_cases b : 65 ≤ c <;> simp [a, b] <;> grind)))
theorem ok193 (c : Int) : Plain Try.prog 193 [.u8 c] (.bool (isDig c)) := okOf mixed p193 fun A P hA hP => (by
  obtain ⟨r, hr⟩ : ∃ r, r = isDig c := ⟨_, rfl⟩
  rw [← hr]
  cbv
  repeat' first | with_reducible rfl | with_reducible refine And.intro ?_ ?_ | ((with_reducible intro hcc); first | (cases hcc; done) | skip) | ((with_reducible first | show goC _ _ _ _ _ _ _ _ | show goOps _ _ _ _ _ | show goD _ _ _ _ _ _); cbv) | ((with_reducible show okWr _ _ = _); rfl) | ((with_reducible first | refine hA.fin_pl _ _ _ ?_ | refine hA.gb0 true _ ?_ | refine hA.gb0 false _ ?_ | refine hA.gb _ _ fun vb hvb => ?_); cbv) | (simp only [hA.lits]; cbv)
  all_goals try simp only [hA.ar, inR, n_cast, Int.ofNat_eq_natCast, Option.getD_some, Option.getD_none] at *
  all_goals (unfold isDig at hr; first | (subst hr; grind; done) | (subst hr; simp at *; grind; done) | (subst hr; congr; by_cases a : 97 ≤ c <;> by_cases b : 65 ≤ c <;> simp [a, b] <;> grind)))
theorem ok168 (c : Int) : Plain Try.prog 168 [.u8 c] (.bool (isDig c)) := okOf mixed p168 fun A P hA hP => (by
  obtain ⟨r, hr⟩ : ∃ r, r = isDig c := ⟨_, rfl⟩
  rw [← hr]
  cbv
  repeat' first | with_reducible rfl | with_reducible refine And.intro ?_ ?_ | ((with_reducible intro hcc); first | (cases hcc; done) | skip) | ((with_reducible first | show goC _ _ _ _ _ _ _ _ | show goOps _ _ _ _ _ | show goD _ _ _ _ _ _); cbv) | ((with_reducible show okWr _ _ = _); rfl) | ((with_reducible first | refine hA.fin_pl _ _ _ ?_ | refine hA.gb0 true _ ?_ | refine hA.gb0 false _ ?_ | refine hA.gb _ _ fun vb hvb => ?_); cbv) | (simp only [hA.lits]; cbv)
  all_goals try simp only [hA.ar, inR, n_cast, Int.ofNat_eq_natCast, Option.getD_some, Option.getD_none] at *
  all_goals (unfold isDig at hr; first | (subst hr; grind; done) | (subst hr; simp at *; grind; done) | (subst hr; congr; by_cases a : 97 ≤ c <;> by_cases b : 65 ≤ c <;> simp [a, b] <;> grind)))
set_option maxRecDepth 100000 in
set_option maxHeartbeats 4000000 in
theorem ok164 (s : List UInt8) : Plain Try.prog 164 [.str s] (.bool (keyB s)) := okOf mixed p164 fun A P hA hP => (by
  obtain ⟨r, hr⟩ : ∃ r, r = keyB s := ⟨_, rfl⟩
  rw [← hr]
  cbv
  repeat' first | with_reducible rfl | with_reducible refine And.intro ?_ ?_ | ((with_reducible intro hcc); first | (cases hcc; done) | skip) | ((with_reducible first | show goC _ _ _ _ _ _ _ _ | show goOps _ _ _ _ _ | show goD _ _ _ _ _ _); cbv) | ((with_reducible show okWr _ _ = _); rfl) | ((with_reducible first | refine hA.fin_pl _ _ _ ?_ | refine hA.gb0 true _ ?_ | refine hA.gb0 false _ ?_ | refine hA.gb _ _ fun vb hvb => ?_); cbv) | (simp only [hA.lits]; cbv)
  all_goals try simp only [hA.ar, inR, n_cast, Int.ofNat_eq_natCast, Option.getD_some, Option.getD_none] at *
  all_goals try (clear hr; grind; done)
  all_goals
    rw [hr]
    congr 3
    rw [Bool.eq_iff_iff]
    subst_vars
    first
      | (simp only [Bool.if_true_left, Bool.or_eq_true, decide_eq_true_eq, keyB, or_assoc]; done)
      | (simp_all [keyB]; done))
set_option maxRecDepth 100000 in
set_option maxHeartbeats 4000000 in
theorem ok167 (s : List UInt8) : Plain Try.prog 167 [.str s] (.bool (keyB s)) := okOf mixed p167 fun A P hA hP => (by
  obtain ⟨r, hr⟩ : ∃ r, r = keyB s := ⟨_, rfl⟩
  rw [← hr]
  cbv
  repeat' first | with_reducible rfl | with_reducible refine And.intro ?_ ?_ | ((with_reducible intro hcc); first | (cases hcc; done) | skip) | ((with_reducible first | show goC _ _ _ _ _ _ _ _ | show goOps _ _ _ _ _ | show goD _ _ _ _ _ _); cbv) | ((with_reducible show okWr _ _ = _); rfl) | ((with_reducible first | refine hA.fin_pl _ _ _ ?_); cbv) | (simp only [hA.lits]; cbv)
  all_goals try simp only [hA.ar, inR, n_cast, Int.ofNat_eq_natCast, Option.getD_some, Option.getD_none] at *
  all_goals try (clear hr; grind; done)
  all_goals
    rw [hr]
    congr 3
    rw [Bool.eq_iff_iff]
    subst_vars
    first
      | (simp only [Bool.if_true_left, Bool.or_eq_true, decide_eq_true_eq, keyB, or_assoc]; done)
      | (simp_all [keyB]; done))
end Go.Proofs.Ytfplalbognalkaa.Ab
/- The code of functions, in the small language. -/
namespace Go.Proofs.Ytfplalbognalkaa.Ab
open Go
def c172 : F := ⟨12, [(.tmp 4)], (.seq (.reg [⟨(some 4), none, (.mov (.c (.int 0)))⟩]) (.seq (.reg [⟨(some 5), none, (.mov (.s 1))⟩, ⟨(some 6), none, (.mov (.s 0))⟩, ⟨(some 7), none, (.lenl (.s 6))⟩, ⟨(some 8), none, (.bin .sub (.s 5) (.s 7))⟩, ⟨(some 1), none, (.mov (.s 8))⟩]) (.seq (.seq (.reg [⟨(some 9), none, (.mov (.s 1))⟩, ⟨(some 10), none, (.bin .lss (.s 9) (.c (.int 0)))⟩]) (.cond (.s 10) (.seq (.reg [⟨(some 4), none, (.mov (.c (.int (-1))))⟩]) .ret) .skip)) (.seq (.reg [⟨(some 11), none, (.mov (.s 1))⟩, ⟨(some 4), none, (.mov (.s 11))⟩]) .ret))))⟩
theorem p172 : prepF Try.prog 172 = some c172 := by kernel_rfl
def c144 : F := ⟨26, [(.tmp 4)], (.seq (.reg [⟨(some 4), none, (.mov (.c (.bool false)))⟩]) (.seq (.reg [⟨(some 5), none, (.mov (.s 1))⟩, ⟨(some 6), none, (.bin .geq (.s 5) (.c (.int 0)))⟩, ⟨(some 7), none, (.mov (.s 6))⟩, ⟨(some 8), (some (7, true)), (.mov (.s 0))⟩, ⟨(some 9), (some (7, true)), (.lenl (.s 8))⟩, ⟨(some 10), (some (7, true)), (.bin .geq (.s 9) (.c (.int 1)))⟩, ⟨(some 11), none, (.pick (.s 7) (.s 10) (.c (.bool false)))⟩, ⟨(some 12), none, (.mov (.s 11))⟩, ⟨(some 13), (some (12, true)), (.mov (.s 0))⟩, ⟨(some 14), (some (12, true)), (.lenl (.s 13))⟩, ⟨(some 15), (some (12, true)), (.bin .leq (.s 14) (.c (.int 5000)))⟩, ⟨(some 16), none, (.pick (.s 12) (.s 15) (.c (.bool false)))⟩, ⟨(some 17), none, (.mov (.s 16))⟩, ⟨(some 18), (some (17, true)), (.mov (.s 0))⟩, ⟨(some 19), (some (17, true)), (.mov (.s 0))⟩, ⟨(some 20), (some (17, true)), (.lenl (.s 19))⟩, ⟨(some 21), (some (17, true)), (.bin .sub (.s 20) (.c (.int 1)))⟩, ⟨(some 22), (some (17, true)), (.mov (.s 1))⟩, ⟨(some 23), (some (17, true)), (.call 186 [(.s 18), (.s 21), (.s 22)])⟩, ⟨(some 24), (some (17, true)), (.bin .eql (.s 23) (.c (.int 0)))⟩, ⟨(some 25), none, (.pick (.s 17) (.s 24) (.c (.bool false)))⟩, ⟨(some 4), none, (.mov (.s 25))⟩]) .ret))⟩
theorem p144 : prepF Try.prog 144 = some c144 := by kernel_rfl
def c176 : F := ⟨23, [(.tmp 2)], (.seq (.reg [⟨(some 2), none, (.mov (.c .zs))⟩]) (.seq (.reg [⟨(some 5), none, (.mov (.s 0))⟩, ⟨(some 6), none, (.lenl (.s 5))⟩, ⟨(some 7), none, (.mks [(.int 0), (.int 0)] (.s 6))⟩, ⟨(some 3), none, (.mov (.s 7))⟩]) (.seq (.seq (.reg [⟨(some 4), none, (.mov (.c (.int 0)))⟩]) (.block 0 (.loop (.seq (.seq (.reg [⟨(some 8), none, (.mov (.s 4))⟩, ⟨(some 9), none, (.mov (.s 0))⟩, ⟨(some 10), none, (.lenl (.s 9))⟩, ⟨(some 11), none, (.bin .lss (.s 8) (.s 10))⟩]) (.cond (.s 11) .skip (.exit 0))) (.seq (.block 1 (.reg [⟨(some 14), none, (.mov (.s 3))⟩, ⟨(some 15), none, (.mov (.s 4))⟩, ⟨(some 16), none, (.mov (.s 0))⟩, ⟨(some 17), none, (.mov (.s 4))⟩, ⟨(some 18), none, (.iadr none 2 (.s 16) (.s 17))⟩, ⟨(some 19), none, (.load true 2 (.s 18))⟩, ⟨(some 20), none, (.call 195 [(.s 19)])⟩, ⟨(some 21), none, (.iadr none 2 (.s 14) (.s 15))⟩, ⟨none, none, (.store true 2 (.s 21) (.s 20))⟩])) (.reg [⟨(some 12), none, (.mov (.s 4))⟩, ⟨(some 13), none, (.bin .add (.s 12) (.c (.int 1)))⟩, ⟨(some 4), none, (.mov (.s 13))⟩])))))) (.seq (.reg [⟨(some 22), none, (.mov (.s 3))⟩, ⟨(some 2), none, (.mov (.s 22))⟩]) .ret))))⟩
theorem p176 : prepF Try.prog 176 = some c176 := by kernel_rfl
def c181 : F := ⟨78, [(.tmp 4)], (.seq (.reg [⟨(some 4), none, (.mov (.c (.bool false)))⟩]) (.seq (.seq (.reg [⟨(some 9), none, (.mov (.s 0))⟩, ⟨(some 10), none, (.lenl (.s 9))⟩, ⟨(some 11), none, (.bin .gtr (.s 10) (.c (.int 5000)))⟩, ⟨(some 12), none, (.mov (.s 11))⟩, ⟨(some 13), (some (12, false)), (.mov (.s 1))⟩, ⟨(some 14), (some (12, false)), (.bin .lss (.s 13) (.c (.int 0)))⟩, ⟨(some 15), none, (.pick (.s 12) (.c (.bool true)) (.s 14))⟩]) (.cond (.s 15) (.seq (.reg [⟨(some 4), none, (.mov (.c (.bool false)))⟩]) .ret) .skip)) (.seq (.reg [⟨(some 5), none, (.mov (.c (.int 0)))⟩]) (.seq (.seq (.reg [⟨(some 16), none, (.mov (.s 0))⟩, ⟨(some 17), none, (.lenl (.s 16))⟩, ⟨(some 18), none, (.mov (.c (.int 0)))⟩]) (.block 0 (.loop (.seq (.reg [⟨(some 19), none, (.bin .lss (.s 18) (.s 17))⟩]) (.seq (.cond (.s 19) .skip (.exit 0)) (.seq (.block 1 (.seq (.reg [⟨(some 20), none, (.iadr none 2 (.s 16) (.s 18))⟩, ⟨(some 21), none, (.load true 2 (.s 20))⟩, ⟨(some 7), none, (.alloc [(.int 0), (.int 0)])⟩, ⟨none, none, (.store true 2 (.s 7) (.s 21))⟩]) (.seq (.reg [⟨(some 8), none, (.mov (.c (.int 0)))⟩]) (.seq (.seq (.reg [⟨(some 22), none, (.fadr 0 (.s 7))⟩, ⟨(some 23), none, (.load false 1 (.s 22))⟩]) (.block 2 (.seq (.reg [⟨(some 25), none, (.bin .eql (.s 23) (.c (.int 1)))⟩, ⟨(some 24), none, (.mov (.s 25))⟩]) (.cond (.s 24) .skip (.seq (.reg [⟨(some 27), none, (.bin .eql (.s 23) (.c (.int 2)))⟩, ⟨(some 26), none, (.mov (.s 27))⟩]) (.cond (.s 26) (.seq (.reg [⟨(some 28), none, (.fadr 1 (.s 7))⟩, ⟨(some 29), none, (.load false 1 (.s 28))⟩, ⟨(some 30), none, (.bin .neq (.s 29) (.c (.int 0)))⟩]) (.cond (.s 30) (.seq (.reg [⟨(some 4), none, (.mov (.c (.bool false)))⟩]) .ret) .skip)) (.seq (.reg [⟨(some 32), none, (.bin .eql (.s 23) (.c (.int 3)))⟩, ⟨(some 31), none, (.mov (.s 32))⟩]) (.cond (.s 31) (.seq (.reg [⟨(some 33), none, (.fadr 1 (.s 7))⟩, ⟨(some 34), none, (.load false 1 (.s 33))⟩, ⟨(some 35), none, (.bin .lss (.s 34) (.c (.int 0)))⟩, ⟨(some 36), none, (.mov (.s 35))⟩, ⟨(some 37), (some (36, false)), (.fadr 1 (.s 7))⟩, ⟨(some 38), (some (36, false)), (.load false 1 (.s 37))⟩, ⟨(some 39), (some (36, false)), (.mov (.s 1))⟩, ⟨(some 40), (some (36, false)), (.bin .geq (.s 38) (.s 39))⟩, ⟨(some 41), none, (.pick (.s 36) (.c (.bool true)) (.s 40))⟩]) (.cond (.s 41) (.seq (.reg [⟨(some 4), none, (.mov (.c (.bool false)))⟩]) .ret) .skip)) (.seq (.reg [⟨(some 43), none, (.bin .eql (.s 23) (.c (.int 4)))⟩, ⟨(some 42), none, (.mov (.s 43))⟩]) (.cond (.s 42) (.seq (.reg [⟨(some 8), none, (.mov (.c (.int 2)))⟩]) (.seq (.reg [⟨(some 44), none, (.fadr 1 (.s 7))⟩, ⟨(some 45), none, (.load false 1 (.s 44))⟩, ⟨(some 46), none, (.bin .lss (.s 45) (.c (.int 1)))⟩, ⟨(some 47), none, (.mov (.s 46))⟩, ⟨(some 48), (some (47, false)), (.fadr 1 (.s 7))⟩, ⟨(some 49), (some (47, false)), (.load false 1 (.s 48))⟩, ⟨(some 50), (some (47, false)), (.bin .gtr (.s 49) (.c (.int 6)))⟩, ⟨(some 51), none, (.pick (.s 47) (.c (.bool true)) (.s 50))⟩]) (.cond (.s 51) (.seq (.reg [⟨(some 4), none, (.mov (.c (.bool false)))⟩]) .ret) .skip))) (.seq (.seq (.reg [⟨(some 53), none, (.bin .eql (.s 23) (.c (.int 5)))⟩, ⟨(some 52), none, (.mov (.s 53))⟩]) (.cond (.s 52) .skip (.reg [⟨(some 54), none, (.bin .eql (.s 23) (.c (.int 6)))⟩, ⟨(some 52), none, (.mov (.s 54))⟩]))) (.cond (.s 52) (.reg [⟨(some 8), none, (.mov (.c (.int 2)))⟩]) (.seq (.seq (.reg [⟨(some 56), none, (.bin .eql (.s 23) (.c (.int 7)))⟩, ⟨(some 55), none, (.mov (.s 56))⟩]) (.cond (.s 55) .skip (.reg [⟨(some 57), none, (.bin .eql (.s 23) (.c (.int 8)))⟩, ⟨(some 55), none, (.mov (.s 57))⟩]))) (.cond (.s 55) (.reg [⟨(some 8), none, (.mov (.c (.int 1)))⟩]) (.seq (.reg [⟨(some 4), none, (.mov (.c (.bool false)))⟩]) .ret))))))))))))))) (.seq (.seq (.reg [⟨(some 58), none, (.fadr 0 (.s 7))⟩, ⟨(some 59), none, (.load false 1 (.s 58))⟩, ⟨(some 60), none, (.bin .gtr (.s 59) (.c (.int 4)))⟩, ⟨(some 61), none, (.mov (.s 60))⟩, ⟨(some 62), (some (61, true)), (.fadr 1 (.s 7))⟩, ⟨(some 63), (some (61, true)), (.load false 1 (.s 62))⟩, ⟨(some 64), (some (61, true)), (.bin .neq (.s 63) (.c (.int 0)))⟩, ⟨(some 65), none, (.pick (.s 61) (.s 64) (.c (.bool false)))⟩, ⟨(some 66), none, (.mov (.s 65))⟩, ⟨(some 67), (some (66, false)), (.mov (.s 5))⟩, ⟨(some 68), (some (66, false)), (.mov (.s 8))⟩, ⟨(some 69), (some (66, false)), (.bin .lss (.s 67) (.s 68))⟩, ⟨(some 70), none, (.pick (.s 66) (.c (.bool true)) (.s 69))⟩]) (.cond (.s 70) (.seq (.reg [⟨(some 4), none, (.mov (.c (.bool false)))⟩]) .ret) .skip)) (.reg [⟨(some 71), none, (.mov (.s 5))⟩, ⟨(some 72), none, (.mov (.s 8))⟩, ⟨(some 73), none, (.bin .sub (.c (.int 1)) (.s 72))⟩, ⟨(some 74), none, (.bin .add (.s 71) (.s 73))⟩, ⟨(some 5), none, (.mov (.s 74))⟩])))))) (.reg [⟨(some 75), none, (.bin .add (.s 18) (.c (.int 1)))⟩, ⟨(some 18), none, (.mov (.s 75))⟩]))))))) (.seq (.reg [⟨(some 76), none, (.mov (.s 5))⟩, ⟨(some 77), none, (.bin .eql (.s 76) (.c (.int 1)))⟩, ⟨(some 4), none, (.mov (.s 77))⟩]) .ret)))))⟩
theorem p181 : prepF Try.prog 181 = some c181 := by kernel_rfl
def c184 : F := ⟨27, [(.tmp 4)], (.seq (.reg [⟨(some 4), none, (.mov (.c (.bool false)))⟩]) (.seq (.seq (.reg [⟨(some 6), none, (.mov (.s 0))⟩, ⟨(some 7), none, (.lenl (.s 6))⟩, ⟨(some 8), none, (.mov (.s 1))⟩, ⟨(some 9), none, (.lenl (.s 8))⟩, ⟨(some 10), none, (.bin .neq (.s 7) (.s 9))⟩]) (.cond (.s 10) (.seq (.reg [⟨(some 4), none, (.mov (.c (.bool false)))⟩]) .ret) .skip)) (.seq (.seq (.reg [⟨(some 5), none, (.mov (.c (.int 0)))⟩]) (.block 0 (.loop (.seq (.seq (.reg [⟨(some 11), none, (.mov (.s 5))⟩, ⟨(some 12), none, (.mov (.s 0))⟩, ⟨(some 13), none, (.lenl (.s 12))⟩, ⟨(some 14), none, (.bin .lss (.s 11) (.s 13))⟩]) (.cond (.s 14) .skip (.exit 0))) (.seq (.block 1 (.seq (.dreg [⟨⟨(some 17), none, (.mov (.s 0))⟩, [], [0]⟩, ⟨⟨(some 18), none, (.mov (.s 5))⟩, [0], [5]⟩, ⟨⟨(some 19), none, (.iadr none 2 (.s 17) (.s 18))⟩, [], [17, 18]⟩, ⟨⟨(some 20), none, (.load true 2 (.s 19))⟩, [], [19]⟩, ⟨⟨(some 21), none, (.mov (.s 1))⟩, [0, 1, 2, 3], [1]⟩, ⟨⟨(some 22), none, (.mov (.s 5))⟩, [0, 1, 2, 3, 4], [5]⟩, ⟨⟨(some 23), none, (.iadr none 2 (.s 21) (.s 22))⟩, [0, 1, 2, 3], [21, 22]⟩, ⟨⟨(some 24), none, (.load true 2 (.s 23))⟩, [0, 1, 2, 3], [23]⟩, ⟨⟨(some 25), none, (.call 197 [(.s 20), (.s 24)])⟩, [], [20, 24]⟩, ⟨⟨(some 26), none, (.un .not (.s 25))⟩, [], [25]⟩]) (.cond (.s 26) (.seq (.reg [⟨(some 4), none, (.mov (.c (.bool false)))⟩]) .ret) .skip))) (.reg [⟨(some 15), none, (.mov (.s 5))⟩, ⟨(some 16), none, (.bin .add (.s 15) (.c (.int 1)))⟩, ⟨(some 5), none, (.mov (.s 16))⟩])))))) (.seq (.reg [⟨(some 4), none, (.mov (.c (.bool true)))⟩]) .ret))))⟩
theorem p184 : prepF Try.prog 184 = some c184 := by kernel_rfl
def c186 : F := ⟨34, [(.tmp 6)], (.seq (.reg [⟨(some 6), none, (.mov (.c (.int 0)))⟩]) (.seq (.reg [⟨(some 7), none, (.mov (.c (.int 1)))⟩]) (.seq (.block 0 (.loop (.seq (.seq (.reg [⟨(some 8), none, (.mov (.s 7))⟩, ⟨(some 9), none, (.bin .gtr (.s 8) (.c (.int 0)))⟩]) (.cond (.s 9) .skip (.exit 0))) (.block 1 (.seq (.seq (.reg [⟨(some 10), none, (.mov (.s 1))⟩, ⟨(some 11), none, (.bin .lss (.s 10) (.c (.int 0)))⟩, ⟨(some 12), none, (.mov (.s 11))⟩, ⟨(some 13), (some (12, false)), (.mov (.s 0))⟩, ⟨(some 14), (some (12, false)), (.mov (.s 1))⟩, ⟨(some 15), (some (12, false)), (.iadr none 2 (.s 13) (.s 14))⟩, ⟨(some 16), (some (12, false)), (.load true 2 (.s 15))⟩, ⟨(some 17), (some (12, false)), (.mov (.s 2))⟩, ⟨(some 18), (some (12, false)), (.call 198 [(.s 16), (.s 17)])⟩, ⟨(some 19), (some (12, false)), (.bin .lss (.s 18) (.c (.int 0)))⟩, ⟨(some 20), none, (.pick (.s 12) (.c (.bool true)) (.s 19))⟩]) (.cond (.s 20) (.seq (.reg [⟨(some 6), none, (.mov (.c (.int (-1))))⟩]) .ret) .skip)) (.seq (.reg [⟨(some 21), none, (.mov (.s 7))⟩, ⟨(some 22), none, (.bin .sub (.s 21) (.c (.int 1)))⟩, ⟨(some 23), none, (.mov (.s 0))⟩, ⟨(some 24), none, (.mov (.s 1))⟩, ⟨(some 25), none, (.iadr none 2 (.s 23) (.s 24))⟩, ⟨(some 26), none, (.load true 2 (.s 25))⟩, ⟨(some 27), none, (.mov (.s 2))⟩, ⟨(some 28), none, (.call 198 [(.s 26), (.s 27)])⟩, ⟨(some 29), none, (.bin .add (.s 22) (.s 28))⟩, ⟨(some 7), none, (.mov (.s 29))⟩]) (.reg [⟨(some 30), none, (.mov (.s 1))⟩, ⟨(some 31), none, (.bin .sub (.s 30) (.c (.int 1)))⟩, ⟨(some 1), none, (.mov (.s 31))⟩]))))))) (.seq (.reg [⟨(some 32), none, (.mov (.s 1))⟩, ⟨(some 33), none, (.bin .add (.s 32) (.c (.int 1)))⟩, ⟨(some 6), none, (.mov (.s 33))⟩]) .ret))))⟩
theorem p186 : prepF Try.prog 186 = some c186 := by kernel_rfl
def c195 : F := ⟨11, [(.cell 2 true 2)], (.seq (.reg [⟨(some 1), none, (.box (.s 0))⟩, ⟨(some 2), none, (.alloc [(.int 0), (.int 0)])⟩]) (.seq (.reg [⟨(some 3), none, (.alloc [(.int 0), (.int 0)])⟩]) (.seq (.reg [⟨(some 4), none, (.fadr 0 (.s 1))⟩, ⟨(some 5), none, (.load false 1 (.s 4))⟩, ⟨(some 6), none, (.fadr 0 (.s 3))⟩, ⟨none, none, (.store false 1 (.s 6) (.s 5))⟩]) (.seq (.reg [⟨(some 7), none, (.fadr 1 (.s 1))⟩, ⟨(some 8), none, (.load false 1 (.s 7))⟩, ⟨(some 9), none, (.fadr 1 (.s 3))⟩, ⟨none, none, (.store false 1 (.s 9) (.s 8))⟩]) (.seq (.reg [⟨(some 10), none, (.load true 2 (.s 3))⟩, ⟨none, none, (.store true 2 (.s 2) (.s 10))⟩]) .ret)))))⟩
theorem p195 : prepF Try.prog 195 = some c195 := by kernel_rfl
def c197 : F := ⟨15, [(.tmp 4)], (.seq (.reg [⟨(some 2), none, (.box (.s 0))⟩, ⟨(some 3), none, (.box (.s 1))⟩, ⟨(some 4), none, (.mov (.c (.bool false)))⟩]) (.seq (.seq (.reg [⟨(some 5), none, (.fadr 0 (.s 2))⟩, ⟨(some 6), none, (.load false 1 (.s 5))⟩, ⟨(some 7), none, (.fadr 0 (.s 3))⟩, ⟨(some 8), none, (.load false 1 (.s 7))⟩, ⟨(some 9), none, (.bin .neq (.s 6) (.s 8))⟩]) (.cond (.s 9) (.seq (.reg [⟨(some 4), none, (.mov (.c (.bool false)))⟩]) .ret) .skip)) (.seq (.seq (.reg [⟨(some 10), none, (.fadr 1 (.s 2))⟩, ⟨(some 11), none, (.load false 1 (.s 10))⟩, ⟨(some 12), none, (.fadr 1 (.s 3))⟩, ⟨(some 13), none, (.load false 1 (.s 12))⟩, ⟨(some 14), none, (.bin .neq (.s 11) (.s 13))⟩]) (.cond (.s 14) (.seq (.reg [⟨(some 4), none, (.mov (.c (.bool false)))⟩]) .ret) .skip)) (.seq (.reg [⟨(some 4), none, (.mov (.c (.bool true)))⟩]) .ret))))⟩
theorem p197 : prepF Try.prog 197 = some c197 := by kernel_rfl
def c198 : F := ⟨71, [(.tmp 4)], (.seq (.reg [⟨(some 2), none, (.box (.s 0))⟩, ⟨(some 4), none, (.mov (.c (.int 0)))⟩]) (.seq (.seq (.reg [⟨(some 5), none, (.fadr 0 (.s 2))⟩, ⟨(some 6), none, (.load false 1 (.s 5))⟩, ⟨(some 7), none, (.bin .eql (.s 6) (.c (.int 1)))⟩, ⟨(some 8), none, (.mov (.s 7))⟩, ⟨(some 9), (some (8, false)), (.fadr 0 (.s 2))⟩, ⟨(some 10), (some (8, false)), (.load false 1 (.s 9))⟩, ⟨(some 11), (some (8, false)), (.bin .eql (.s 10) (.c (.int 2)))⟩, ⟨(some 12), (some (8, false)), (.mov (.s 11))⟩, ⟨(some 13), (some (12, true)), (.fadr 1 (.s 2))⟩, ⟨(some 14), (some (12, true)), (.load false 1 (.s 13))⟩, ⟨(some 15), (some (12, true)), (.bin .eql (.s 14) (.c (.int 0)))⟩, ⟨(some 16), (some (8, false)), (.pick (.s 12) (.s 15) (.c (.bool false)))⟩, ⟨(some 17), none, (.pick (.s 8) (.c (.bool true)) (.s 16))⟩]) (.cond (.s 17) (.seq (.reg [⟨(some 4), none, (.mov (.c (.int 0)))⟩]) .ret) .skip)) (.seq (.seq (.reg [⟨(some 18), none, (.fadr 0 (.s 2))⟩, ⟨(some 19), none, (.load false 1 (.s 18))⟩, ⟨(some 20), none, (.bin .eql (.s 19) (.c (.int 3)))⟩, ⟨(some 21), none, (.mov (.s 20))⟩, ⟨(some 22), (some (21, true)), (.fadr 1 (.s 2))⟩, ⟨(some 23), (some (21, true)), (.load false 1 (.s 22))⟩, ⟨(some 24), (some (21, true)), (.bin .geq (.s 23) (.c (.int 0)))⟩, ⟨(some 25), none, (.pick (.s 21) (.s 24) (.c (.bool false)))⟩, ⟨(some 26), none, (.mov (.s 25))⟩, ⟨(some 27), (some (26, true)), (.fadr 1 (.s 2))⟩, ⟨(some 28), (some (26, true)), (.load false 1 (.s 27))⟩, ⟨(some 29), (some (26, true)), (.mov (.s 1))⟩, ⟨(some 30), (some (26, true)), (.bin .lss (.s 28) (.s 29))⟩, ⟨(some 31), none, (.pick (.s 26) (.s 30) (.c (.bool false)))⟩]) (.cond (.s 31) (.seq (.reg [⟨(some 4), none, (.mov (.c (.int 0)))⟩]) .ret) .skip)) (.seq (.seq (.reg [⟨(some 32), none, (.fadr 0 (.s 2))⟩, ⟨(some 33), none, (.load false 1 (.s 32))⟩, ⟨(some 34), none, (.bin .eql (.s 33) (.c (.int 4)))⟩, ⟨(some 35), none, (.mov (.s 34))⟩, ⟨(some 36), (some (35, true)), (.fadr 1 (.s 2))⟩, ⟨(some 37), (some (35, true)), (.load false 1 (.s 36))⟩, ⟨(some 38), (some (35, true)), (.bin .geq (.s 37) (.c (.int 1)))⟩, ⟨(some 39), none, (.pick (.s 35) (.s 38) (.c (.bool false)))⟩, ⟨(some 40), none, (.mov (.s 39))⟩, ⟨(some 41), (some (40, true)), (.fadr 1 (.s 2))⟩, ⟨(some 42), (some (40, true)), (.load false 1 (.s 41))⟩, ⟨(some 43), (some (40, true)), (.bin .leq (.s 42) (.c (.int 6)))⟩, ⟨(some 44), none, (.pick (.s 40) (.s 43) (.c (.bool false)))⟩]) (.cond (.s 44) (.seq (.reg [⟨(some 4), none, (.mov (.c (.int 2)))⟩]) .ret) .skip)) (.seq (.seq (.reg [⟨(some 45), none, (.fadr 0 (.s 2))⟩, ⟨(some 46), none, (.load false 1 (.s 45))⟩, ⟨(some 47), none, (.bin .eql (.s 46) (.c (.int 5)))⟩, ⟨(some 48), none, (.mov (.s 47))⟩, ⟨(some 49), (some (48, false)), (.fadr 0 (.s 2))⟩, ⟨(some 50), (some (48, false)), (.load false 1 (.s 49))⟩, ⟨(some 51), (some (48, false)), (.bin .eql (.s 50) (.c (.int 6)))⟩, ⟨(some 52), none, (.pick (.s 48) (.c (.bool true)) (.s 51))⟩, ⟨(some 53), none, (.mov (.s 52))⟩, ⟨(some 54), (some (53, true)), (.fadr 1 (.s 2))⟩, ⟨(some 55), (some (53, true)), (.load false 1 (.s 54))⟩, ⟨(some 56), (some (53, true)), (.bin .eql (.s 55) (.c (.int 0)))⟩, ⟨(some 57), none, (.pick (.s 53) (.s 56) (.c (.bool false)))⟩]) (.cond (.s 57) (.seq (.reg [⟨(some 4), none, (.mov (.c (.int 2)))⟩]) .ret) .skip)) (.seq (.seq (.reg [⟨(some 58), none, (.fadr 0 (.s 2))⟩, ⟨(some 59), none, (.load false 1 (.s 58))⟩, ⟨(some 60), none, (.bin .eql (.s 59) (.c (.int 7)))⟩, ⟨(some 61), none, (.mov (.s 60))⟩, ⟨(some 62), (some (61, false)), (.fadr 0 (.s 2))⟩, ⟨(some 63), (some (61, false)), (.load false 1 (.s 62))⟩, ⟨(some 64), (some (61, false)), (.bin .eql (.s 63) (.c (.int 8)))⟩, ⟨(some 65), none, (.pick (.s 61) (.c (.bool true)) (.s 64))⟩, ⟨(some 66), none, (.mov (.s 65))⟩, ⟨(some 67), (some (66, true)), (.fadr 1 (.s 2))⟩, ⟨(some 68), (some (66, true)), (.load false 1 (.s 67))⟩, ⟨(some 69), (some (66, true)), (.bin .eql (.s 68) (.c (.int 0)))⟩, ⟨(some 70), none, (.pick (.s 66) (.s 69) (.c (.bool false)))⟩]) (.cond (.s 70) (.seq (.reg [⟨(some 4), none, (.mov (.c (.int 1)))⟩]) .ret) .skip)) (.seq (.reg [⟨(some 4), none, (.mov (.c (.int (-1))))⟩]) .ret)))))))⟩
theorem p198 : prepF Try.prog 198 = some c198 := by kernel_rfl
end Go.Proofs.Ytfplalbognalkaa.Ab
/- Rows of operations: sizes, copies, alike. -/
namespace Go.Proofs.Ytfplalbognalkaa.Ab
open Go
abbrev orow (p : Int × Int) : List E := [E.int p.1, E.int p.2]
abbrev dOp (k n : Int) : D := .agg [.int k, .int n]
theorem row_op {l : List (Int × Int)} {es : List (List E)} (he : es = l.map orow) {n : Int} (h : 0 ≤ n ∧ n < es.length) : ∃ p, es.getD n.toNat [] = orow p ∧ l[n.toNat]? = some p := by
  subst he
  have hn : n.toNat < l.length := by simp at h; omega
  exact ⟨l[n.toNat], by simp [List.getD, hn], by simp [hn]⟩
theorem ok195 (b v : Int) : Plain Try.prog 195 [dOp b v] (dOp b v) := okOf mixed p195 fun A P hA hP => (by
  cbv
  repeat' first | with_reducible rfl | with_reducible refine And.intro ?_ ?_ | ((with_reducible intro hcc); first | (cases hcc; done) | skip) | ((with_reducible first | show goC _ _ _ _ _ _ _ _ | show goOps _ _ _ _ _ | show goD _ _ _ _ _ _); cbv) | ((with_reducible show okWr _ _ = _); rfl) | ((with_reducible first | refine hA.fin_pl _ _ _ ?_); cbv) | ((with_reducible first | refine hA.st _ _ _ _ _ ⟨?_, fun ds hds => ?_⟩); rotate_left; cbv) | (simp only [hA.lits]; cbv)
  all_goals try simp only [hA.ar, inR, n_cast, Int.ofNat_eq_natCast, Option.getD_some, Option.getD_none] at *
  )
theorem ok197 (b v b' v' : Int) : Plain Try.prog 197 [dOp b v, dOp b' v'] (.bool (decide (b = b' ∧ v = v'))) := okOf mixed p197 fun A P hA hP => (by
  cbv
  repeat' first | with_reducible rfl | with_reducible refine And.intro ?_ ?_ | ((with_reducible intro hcc); first | (cases hcc; done) | skip) | ((with_reducible first | show goC _ _ _ _ _ _ _ _ | show goOps _ _ _ _ _ | show goD _ _ _ _ _ _); cbv) | ((with_reducible show okWr _ _ = _); rfl) | ((with_reducible first | refine hA.fin_pl _ _ _ ?_); cbv) | (simp only [hA.lits]; cbv)
  all_goals try simp only [hA.ar, inR, n_cast, Int.ofNat_eq_natCast, Option.getD_some, Option.getD_none] at *
  all_goals grind)
theorem ok172 (es : List (List E)) (left : Int) (h : 0 ≤ left ∧ left ≤ 1048576) : Plain Try.prog 172 [.e (.sl es), .int left] (.int (if left - es.length < 0 then -1 else left - es.length)) := okOf mixed p172 fun A P hA hP => (by
  obtain ⟨r, hr⟩ : ∃ r : Int, r = if left - es.length < 0 then -1 else left - es.length := ⟨_, rfl⟩
  rw [← hr]
  cbv
  repeat' first | with_reducible rfl | with_reducible refine And.intro ?_ ?_ | ((with_reducible intro hcc); first | (cases hcc; done) | skip) | ((with_reducible first | show goC _ _ _ _ _ _ _ _ | show goOps _ _ _ _ _ | show goD _ _ _ _ _ _); cbv) | ((with_reducible show okWr _ _ = _); rfl) | ((with_reducible first | refine hA.fin_pl _ _ _ ?_ | refine hA.len _ _ _ _ _ fun z hz hb => ?_); cbv) | (simp only [hA.lits]; cbv)
  all_goals try simp only [hA.ar, inR, n_cast, Int.ofNat_eq_natCast, Option.getD_some, Option.getD_none] at *
  all_goals grind)
set_option maxRecDepth 100000 in
theorem ok184 (l l' : List (Int × Int)) (es fs : List (List E)) (he : es = l.map orow) (hf : fs = l'.map orow) : Plain Try.prog 184 [.e (.sl es), .e (.sl fs)] (.bool (decide (l = l'))) := okOf mixed p184 fun A P hA hP => (by
  obtain ⟨r, hr⟩ : ∃ r : Bool, r = decide (l = l') := ⟨_, rfl⟩
  rw [← hr]
  have hl1 : es.length = l.length := by rw [he]; simp
  have hl2 : fs.length = l'.length := by rw [hf]; simp
  cbv
  repeat' first | with_reducible rfl | with_reducible refine And.intro ?_ ?_ | ((with_reducible intro hcc); first | (cases hcc; done) | skip) | ((with_reducible first | show goC _ _ _ _ _ _ _ _ | show goOps _ _ _ _ _ | show goD _ _ _ _ _ _); cbv) | ((with_reducible show okWr _ _ = _); rfl) | ((with_reducible first | refine callK_f hA hP (ok197 _ _ _ _) ?_ ?_ ?_); exact rfl; exact rfl; cbv) | ((with_reducible first | refine hA.fin_pl _ _ _ ?_ | refine hA.len _ _ _ _ _ fun z hz hb => ?_ | refine hA.off _ _ _ _ fun b hb => ?_); cbv) | ((with_reducible first | refine hA.sapp _ _ _ ⟨?_, fun sl hsl => ?_⟩); rotate_left; cbv) | (simp only [hA.lits]; cbv)
  all_goals try simp only [hA.ar, inR, n_cast, Int.ofNat_eq_natCast, Option.getD_some, Option.getD_none] at *
  · have : l ≠ l' := fun e => by subst e; grind
    rw [hr]; simp [this]
  · have hzz : es.length = fs.length := by grind
    refine hA.loopI (fun n s => ∃ i : Int, 0 ≤ i ∧ n + i = l.length ∧ (∀ j : Nat, j < i → l[j]? = l'[j]?) ∧ s = ⟨[(5, .int i), (4, .bool false), (0, .e (.sl es)), (1, .e (.sl fs))], []⟩) l.length _ (Weak.keep (env' := [(5, .int 0), (4, .bool false), (0, .e (.sl es)), (1, .e (.sl fs))]) ⟨rfl, rfl, rfl, rfl, trivial⟩) ⟨0, by omega, by omega, fun j hj => by omega, rfl⟩ ?_
    rintro n s K ⟨i, h0, h1, h2, rfl⟩ hK
    cbv
    repeat' first | with_reducible rfl | with_reducible refine And.intro ?_ ?_ | ((with_reducible intro hcc); first | (cases hcc; done) | skip) | ((with_reducible first | show goC _ _ _ _ _ _ _ _ | show goOps _ _ _ _ _ | show goD _ _ _ _ _ _); cbv) | ((with_reducible show okWr _ _ = _); rfl) | ((with_reducible first | refine callK_f hA hP (ok197 _ _ _ _) ?_ ?_ ?_); exact rfl; exact rfl; cbv) | ((with_reducible refine hA.row es _ _ ?_); have hin : (0 : Int) ≤ i ∧ i < es.length := (by simp only [hA.lt, decide_eq_true_eq, n_cast] at *; omega); obtain ⟨⟨b1, v1⟩, e1, q1⟩ := row_op he hin; refine ⟨hin, fun row hrow => ?_⟩; rw [e1] at hrow; subst hrow; cbv) | ((with_reducible refine hA.row fs _ _ ?_); have hin : (0 : Int) ≤ i ∧ i < fs.length := (by simp only [hA.lt, decide_eq_true_eq, n_cast] at *; omega); obtain ⟨⟨b2, v2⟩, e2, q2⟩ := row_op hf hin; refine ⟨hin, fun row hrow => ?_⟩; rw [e2] at hrow; subst hrow; cbv) | ((with_reducible first | refine hA.fin_pl _ _ _ ?_ | refine hA.len _ _ _ _ _ fun z hz hb => ?_ | refine hA.off _ _ _ _ fun b hb => ?_); cbv) | ((with_reducible first | refine hA.sapp _ _ _ ⟨?_, fun sl hsl => ?_⟩); rotate_left; cbv) | (simp only [hA.lits]; cbv)
    all_goals try simp only [hA.ar, inR, n_cast, Int.ofNat_eq_natCast, Option.getD_some, Option.getD_none] at *
    · have hne : l ≠ l' := fun e => by
        subst e
        rw [q1] at q2
        simp only [Option.some.injEq, Prod.mk.injEq] at q2
        simp_all
      rw [hr]; simp [hne]
    · have := hb trivial trivial trivial
      omega
    · have hbv : b1 = b2 ∧ v1 = v2 := by grind
      refine hK _ (n - 1) _ (by omega) (Weak.keep (env' := [(5, .int (i + 1)), (4, .bool false), (0, .e (.sl es)), (1, .e (.sl fs))]) ⟨rfl, rfl, rfl, rfl, trivial⟩) ⟨i + 1, by omega, by omega, fun j hj => ?_, rfl⟩
      by_cases hji : (j : Int) < i
      · exact h2 j hji
      · have : j = i.toNat := by omega
        rw [this, q1, q2, hbv.1, hbv.2]
    · have hll : l = l' := by
        refine List.ext_getElem? fun j => ?_
        by_cases hj : (j : Int) < i
        · exact h2 j hj
        · rw [List.getElem?_eq_none (by grind), List.getElem?_eq_none (by grind)]
      rw [hr]; simp [hll])
set_option maxRecDepth 100000 in
theorem ok176 (l : List (Int × Int)) (es : List (List E)) (he : es = l.map orow) (hlen : es.length ≤ 1048576) : Plain Try.prog 176 [.e (.sl es)] (.e (.sl es)) := okOf mixed p176 fun A P hA hP => (by
  have hl1 : es.length = l.length := by rw [he]; simp
  have hes : ∀ e ∈ es, e.length = 2 := by
    rw [he]
    intro e h
    obtain ⟨p, _, rfl⟩ := List.mem_map.1 h
    rfl
  cbv
  repeat' first | with_reducible rfl | with_reducible refine And.intro ?_ ?_ | ((with_reducible intro hcc); first | (cases hcc; done) | skip) | ((with_reducible first | show goC _ _ _ _ _ _ _ _ | show goOps _ _ _ _ _ | show goD _ _ _ _ _ _); cbv) | ((with_reducible show okWr _ _ = _); rfl) | ((with_reducible first | refine callK_f hA hP (ok195 _ _) ?_ ?_ ?_); exact rfl; exact rfl; cbv) | ((with_reducible first | refine hA.fin_pl _ _ _ ?_ | refine hA.len _ _ _ _ _ fun z hz hb => ?_ | refine hA.off _ _ _ _ fun b hb => ?_ | refine hA.rep _ _ _ fun ds m hds hm => ?_ | refine hA.alt _ _ (Or.inl ?_)); cbv) | ((with_reducible first | refine hA.st _ _ _ _ _ ⟨?_, fun ds hds => ?_⟩ | refine hA.sapp _ _ _ ⟨?_, fun sl hsl => ?_⟩); rotate_left; cbv) | (simp only [hA.lits]; cbv)
  all_goals try simp only [hA.ar, inR, n_cast, Int.ofNat_eq_natCast, Option.getD_some, Option.getD_none] at *
  · omega
  · omega
  · refine hA.loopI (fun n s => ∃ (i : Int) (xs : List (List E)), 0 ≤ i ∧ n + i = es.length ∧ xs.length = es.length ∧ (∀ e ∈ xs, e.length = 2) ∧ (∀ j : Nat, j < i → xs[j]? = es[j]?) ∧
        s = ⟨[(4, .int i), (3, .bs 0 0 m 2), (2, .zs), (0, .e (.sl es))], [.box (xs.flatten.map .e)]⟩) es.length _
      (Weak.keep (env' := [(4, .int 0), (3, .bs 0 0 m 2), (2, .zs), (0, .e (.sl es))]) ⟨rfl, rfl, rfl, rfl, trivial⟩)
      ⟨0, List.replicate m [E.int 0, E.int 0], by omega, by omega, by simp; omega, by simp, fun j hj => by omega, by rw [← buf_zero, hm]; rw [hds]; rfl⟩ ?_
    rintro n s K ⟨i, xs, h0, h1, h2, h3, h4, rfl⟩ hK
    obtain ⟨ys, hys⟩ : ∃ ys, ys = xs.flatten.map D.e := ⟨_, rfl⟩
    rw [← hys]
    cbv
    repeat' first | with_reducible rfl | with_reducible refine And.intro ?_ ?_ | ((with_reducible intro hcc); first | (cases hcc; done) | skip) | ((with_reducible first | show goC _ _ _ _ _ _ _ _ | show goOps _ _ _ _ _ | show goD _ _ _ _ _ _); cbv) | ((with_reducible show okWr _ _ = _); rfl) | ((with_reducible first | refine callK_f hA hP (ok195 _ _) ?_ ?_ ?_); exact rfl; exact rfl; cbv) | ((with_reducible refine hA.fin_bs (es := es) ?_ ?_ hes)) | ((with_reducible refine hA.row es _ _ ?_); have hin : (0 : Int) ≤ i ∧ i < es.length := (by simp only [hA.lt, decide_eq_true_eq, n_cast] at *; omega); obtain ⟨⟨b1, v1⟩, e1, q1⟩ := row_op he hin; refine ⟨hin, fun row hrow => ?_⟩; rw [e1] at hrow; subst hrow; cbv) | ((with_reducible first | refine hA.fin_pl _ _ _ ?_ | refine hA.len _ _ _ _ _ fun z hz hb => ?_ | refine hA.off _ _ _ _ fun b hb => ?_ | refine hA.rep _ _ _ fun ds m hds hm => ?_ | refine hA.alt _ _ (Or.inl ?_)); cbv) | ((with_reducible first | refine hA.st _ _ _ _ _ ⟨?_, fun ds hds => ?_⟩ | refine hA.sapp _ _ _ ⟨?_, fun sl hsl => ?_⟩); rotate_left; cbv) | (simp only [hA.lits]; cbv)
    all_goals try simp only [hA.ar, inR, n_cast, Int.ofNat_eq_natCast, Option.getD_some, Option.getD_none] at *
    · exact h0
    · show i < (m : Int)
      omega
    · omega
    · have hb' : b = i.toNat * 2 := by omega
      have hrow : es[i.toNat]? = some [E.int b1, E.int v1] := by
        have : i.toNat < es.length := by omega
        rw [← e1]; simp [List.getD, this]
      refine hK _ (n - 1) _ (by omega) (Weak.keep (env' := [(4, .int (i + 1)), (3, .bs 0 0 m 2), (2, .zs), (0, .e (.sl es))]) ⟨rfl, rfl, rfl, rfl, trivial⟩)
        ⟨i + 1, xs.set i.toNat [E.int b1, E.int v1], by omega, by omega, by simp [h2], ?_, fun j hj => ?_, ?_⟩
      · intro e h
        rcases List.mem_or_eq_of_mem_set h with h | rfl
        · exact h3 e h
        · rfl
      · by_cases hji : (j : Int) < i
        · rw [List.getElem?_set_ne (show i.toNat ≠ j by omega)]; exact h4 j hji
        · have : j = i.toNat := by omega
          subst this
          rw [List.getElem?_set_self (show i.toNat < xs.length by omega), hrow]
      · congr 2
        rw [hds, hys, hb']
        congr 1
        exact buf_set (k := 2) (by omega) h3 (i := i.toNat) (show i.toNat < xs.length by omega) (r := [E.int b1, E.int v1]) rfl
    · have : ys.length = xs.length * 2 := by rw [hys, List.length_map, flatten_len h3]
      omega
    · have hxe : xs = es := by
        refine List.ext_getElem? fun j => ?_
        by_cases hj : (j : Int) < i
        · exact h4 j hj
        · rw [List.getElem?_eq_none (by grind), List.getElem?_eq_none (by grind)]
      rw [hys, hxe]; rfl
    · omega)
end Go.Proofs.Ytfplalbognalkaa.Ab
/- Expressions: what an operation takes. -/
namespace Go.Proofs.Ytfplalbognalkaa.Ab
open Go
def takes (o : Int × Int) (w : Int) : Int :=
  if o.1 = 1 ∨ (o.1 = 2 ∧ o.2 = 0) then 0 else if o.1 = 3 ∧ 0 ≤ o.2 ∧ o.2 < w then 0 else if o.1 = 4 ∧ 1 ≤ o.2 ∧ o.2 ≤ 6 then 2
  else if (o.1 = 5 ∨ o.1 = 6) ∧ o.2 = 0 then 2 else if (o.1 = 7 ∨ o.1 = 8) ∧ o.2 = 0 then 1 else -1
theorem takes_le (o : Int × Int) (w : Int) : -1 ≤ takes o w ∧ takes o w ≤ 2 := by unfold takes; grind
set_option maxRecDepth 100000 in
theorem ok198 (k n w : Int) : Plain Try.prog 198 [dOp k n, .int w] (.int (takes (k, n) w)) := okOf mixed p198 fun A P hA hP => (by
  obtain ⟨r, hr⟩ : ∃ r, r = takes (k, n) w := ⟨_, rfl⟩
  rw [← hr]
  cbv
  repeat' first | with_reducible rfl | with_reducible refine And.intro ?_ ?_ | ((with_reducible intro hcc); first | (cases hcc; done) | skip) | ((with_reducible first | show goC _ _ _ _ _ _ _ _ | show goOps _ _ _ _ _ | show goD _ _ _ _ _ _); cbv) | ((with_reducible show okWr _ _ = _); rfl) | ((with_reducible first | refine hA.fin_pl _ _ _ ?_ | refine hA.gb0 true _ ?_ | refine hA.gb0 false _ ?_ | refine hA.gb _ _ fun vb hvb => ?_); cbv) | (simp only [hA.lits]; cbv)
  all_goals try simp only [hA.ar, inR, n_cast, Int.ofNat_eq_natCast, Option.getD_some, Option.getD_none] at *
  all_goals subst hr
  all_goals try simp only [takes]
  all_goals try simp at *
  all_goals grind)
end Go.Proofs.Ytfplalbognalkaa.Ab
/- Expressions: which are valid, forwards and backwards. -/
namespace Go.Proofs.Ytfplalbognalkaa.Ab
open Go
/-- Forwards: how many values lie there behind all operations; -1: not valid. -/
def fw (w : Int) : List (Int × Int) → Int → Int
  | [], h => h
  | o :: r, h => if takes o w < 0 ∨ h < takes o w then -1 else fw w r (h + 1 - takes o w)
/-- Backwards from operation n - 1: where the expression begins; -1: nowhere. -/
def back (l : List (Int × Int)) (w : Int) : Nat → Int → Int
  | 0, need => if need ≤ 0 then 0 else -1
  | n + 1, need => if need ≤ 0 then n + 1 else if takes (l.getD n (0, 0)) w < 0 then -1 else back l w n (need - 1 + takes (l.getD n (0, 0)) w)
theorem fw_snoc (w : Int) (l : List (Int × Int)) (o : Int × Int) : ∀ h : Int, 0 ≤ h → fw w (l ++ [o]) h = if fw w l h < 0 then -1 else if takes o w < 0 ∨ fw w l h < takes o w then -1 else fw w l h + 1 - takes o w := by
  induction l with
  | nil => intro h h0; show (if takes o w < 0 ∨ h < takes o w then -1 else h + 1 - takes o w) = if h < 0 then -1 else _; rw [if_neg (show ¬ h < 0 by omega)]; rfl
  | cons p l ih =>
    intro h h0
    by_cases c : takes p w < 0 ∨ h < takes p w
    · have e1 : fw w (p :: l) h = -1 := if_pos c
      have e2 : fw w (p :: (l ++ [o])) h = -1 := if_pos c
      rw [List.cons_append, e1, e2]; rfl
    · have e1 : fw w (p :: l) h = fw w l (h + 1 - takes p w) := if_neg c
      have e2 : fw w (p :: (l ++ [o])) h = fw w (l ++ [o]) (h + 1 - takes p w) := if_neg c
      rw [List.cons_append, e1, e2]; exact ih _ (by omega)
theorem fw_ge (w : Int) (l : List (Int × Int)) : ∀ h : Int, 0 ≤ h → -1 ≤ fw w l h ∧ (l ≠ [] → fw w l h ≠ 0) := by
  induction l with
  | nil => intro h h0; simp only [fw]; exact ⟨by omega, fun e => absurd rfl e⟩
  | cons p l ih =>
    intro h h0
    simp only [fw]
    split
    · exact ⟨by omega, fun _ => by omega⟩
    · rename_i c
      obtain ⟨a, b⟩ := ih (h + 1 - takes p w) (by omega)
      refine ⟨a, fun _ => ?_⟩
      cases l with
      | nil => simp only [fw]; omega
      | cons q l => exact b (by simp)
theorem back_fw (w : Int) (l : List (Int × Int)) : ∀ (n : Nat), n ≤ l.length → ∀ need : Int, 1 ≤ need → (back l w n need = 0 ↔ fw w (l.take n) 0 = need) := by
  intro n
  induction n with
  | zero => intro _ need h; simp only [back, List.take_zero, fw]; rw [if_neg (by omega)]; omega
  | succ n ih =>
    intro hn need h
    have hlt : n < l.length := by omega
    have e1 : l.getD n (0, 0) = l[n] := by simp [List.getD, hlt]
    have e2 : l.take (n + 1) = l.take n ++ [l[n]] := by rw [List.take_add_one]; simp [hlt]
    obtain ⟨g1, g2⟩ := fw_ge w (l.take n) 0 (Int.le_refl _)
    have tl := takes_le l[n] w
    rw [e2, fw_snoc w _ _ 0 (Int.le_refl _)]
    simp only [back]
    rw [if_neg (by omega), e1]
    generalize takes l[n] w = t at *
    generalize hv : fw w (l.take n) 0 = v at *
    by_cases ct : t < 0
    · rw [if_pos ct, if_pos (show t < 0 ∨ v < t from .inl ct)]; split <;> omega
    · rw [if_neg ct]
      by_cases c2 : 1 ≤ need - 1 + t
      · rw [ih (by omega) _ c2]
        split
        · omega
        · split <;> omega
      · have hz : back l w n (need - 1 + t) = n := by
          cases n with
          | zero => simp only [back]; rw [if_pos (by omega)]; rfl
          | succ n => simp only [back]; rw [if_pos (by omega)]; rfl
        rw [hz]
        have hnn : (n + 1 : Int) ≠ 0 := by omega
        have hv0 : v = 0 ↔ n = 0 := by
          constructor
          · intro e
            rcases Nat.eq_zero_or_pos n with h0 | h0
            · exact h0
            · exact absurd e (g2 (fun e => by have q : (l.take n).length = 0 := (by rw [e]; rfl); rw [List.length_take] at q; omega))
          · intro e; subst e; simp [fw] at hv; exact hv.symm
        split
        · omega
        · split
          · omega
          · have : (n : Int) = 0 ↔ v = 0 := by omega
            omega
/-- Valid either way. -/
def exOk (l : List (Int × Int)) (w : Int) : Bool := decide (0 ≤ w ∧ 1 ≤ l.length ∧ l.length ≤ 5000 ∧ back l w l.length 1 = 0)
theorem exOk_fw (l : List (Int × Int)) (w : Int) : exOk l w = decide (l.length ≤ 5000 ∧ 0 ≤ w ∧ fw w l 0 = 1) := by
  have h := back_fw w l l.length (Nat.le_refl _) 1 (Int.le_refl _)
  rw [List.take_length] at h
  unfold exOk
  have : fw w l 0 = 1 → 1 ≤ l.length := fun e => by cases l <;> simp [fw] at e ⊢
  rw [decide_eq_decide]
  constructor
  · rintro ⟨a, b, c, d⟩; exact ⟨c, a, h.1 d⟩
  · rintro ⟨c, a, d⟩; exact ⟨a, this d, c, h.2 d⟩
set_option maxRecDepth 100000 in
theorem ok186 (l : List (Int × Int)) (es : List (List E)) (he : es = l.map orow) (hlen : es.length ≤ 1048576) (n : Nat) (hn : n ≤ l.length) (i w : Int) (hi : i = n - 1) : Plain Try.prog 186 [.e (.sl es), .int i, .int w] (.int (back l w n 1)) := okOf mixed p186 fun A P hA hP => (by
  have hl1 : es.length = l.length := by rw [he]; simp
  obtain ⟨r, hr⟩ : ∃ r, r = back l w n 1 := ⟨_, rfl⟩
  rw [← hr]
  cbv
  repeat' first | with_reducible rfl | with_reducible refine And.intro ?_ ?_ | ((with_reducible intro hcc); first | (cases hcc; done) | skip) | ((with_reducible first | show goC _ _ _ _ _ _ _ _ | show goOps _ _ _ _ _ | show goD _ _ _ _ _ _); cbv) | ((with_reducible show okWr _ _ = _); rfl) | ((with_reducible first | refine hA.fin_pl _ _ _ ?_ | refine hA.off _ _ _ _ fun b hb => ?_ | refine hA.gb0 true _ ?_ | refine hA.gb0 false _ ?_ | refine hA.gb _ _ fun vb hvb => ?_); cbv) | ((with_reducible first | refine hA.sapp _ _ _ ⟨?_, fun sl hsl => ?_⟩); rotate_left; cbv) | (simp only [hA.lits]; cbv)
  all_goals try simp only [hA.ar, inR, n_cast, Int.ofNat_eq_natCast, Option.getD_some, Option.getD_none] at *
  refine hA.loopI (fun m s => ∃ (need i : Int), i = m - 1 ∧ m ≤ n ∧ 0 ≤ need ∧ need ≤ 1 + 2 * (n - m) ∧ r = back l w m need ∧ s = ⟨[(7, .int need), (1, .int i), (0, .e (.sl es)), (2, .int w)], []⟩) n _
    (Weak.keep (env' := [(7, .int 1), (1, .int i), (0, .e (.sl es)), (2, .int w)]) ⟨rfl, rfl, rfl, rfl, trivial⟩) ⟨1, i, hi, Nat.le_refl _, by omega, by omega, hr, rfl⟩ ?_
  rintro m s K ⟨need, i, hi, h0, h1, h2, h3, rfl⟩ hK
  cases m with
  | zero =>
    have hlt : A.lt i 0 = true := by rw [hA.lt]; simp [hi]
    have hr2 : r = if need ≤ 0 then 0 else -1 := h3
    clear h3
    cbv
    repeat' first | with_reducible rfl | with_reducible refine And.intro ?_ ?_ | ((with_reducible intro hcc); first | (cases hcc; done) | skip) | ((with_reducible first | show goC _ _ _ _ _ _ _ _ | show goOps _ _ _ _ _ | show goD _ _ _ _ _ _); cbv) | ((with_reducible show okWr _ _ = _); rfl) | (simp only [hlt]; cbv) | ((with_reducible refine hA.row0 _ _ _ fun p row => ?_); cbv) | ((with_reducible refine callK_no hA (.int 0) ?_); cbv) | ((with_reducible first | refine hA.fin_pl _ _ _ ?_ | refine hA.off _ _ _ _ fun b hb => ?_ | refine hA.gb0 true _ ?_ | refine hA.gb0 false _ ?_ | refine hA.gb _ _ fun vb hvb => ?_); cbv) | ((with_reducible first | refine hA.sapp _ _ _ ⟨?_, fun sl hsl => ?_⟩); rotate_left; cbv) | (simp only [hA.lits]; cbv)
    all_goals try simp only [hA.ar, inR, n_cast, Int.ofNat_eq_natCast, Option.getD_some, Option.getD_none] at *
    all_goals first
      | (clear hK; grind; done)
      | (trace_state; fail)
  | succ m =>
    have hlt : A.lt i 0 = false := by rw [hA.lt]; simp [hi]
    have hm : m < l.length := by omega
    have hin : (0 : Int) ≤ i ∧ i < es.length := by omega
    obtain ⟨⟨k, v⟩, e1, q1⟩ := row_op he hin
    have e2 : l.getD m (0, 0) = (k, v) := by
      have : i.toNat = m := by omega
      rw [this] at q1
      simp [List.getD, q1]
    obtain ⟨tk, htk⟩ : ∃ tk, tk = takes (k, v) w := ⟨_, rfl⟩
    have h85 := ok198 k v w
    have tl := takes_le (k, v) w
    rw [← htk] at h85 tl
    have hr2 : r = if need ≤ 0 then ((m + 1 : Nat) : Int) else if tk < 0 then -1 else back l w m (need - 1 + tk) := by
      rw [h3, back, e2, ← htk]; rfl
    obtain ⟨b, hb⟩ : ∃ b, b = back l w m (need - 1 + tk) := ⟨_, rfl⟩
    rw [← hb] at hr2
    clear h3 hr htk
    cbv
    repeat' first | with_reducible rfl | with_reducible refine And.intro ?_ ?_ | ((with_reducible intro hcc); first | (cases hcc; done) | skip) | ((with_reducible first | show goC _ _ _ _ _ _ _ _ | show goOps _ _ _ _ _ | show goD _ _ _ _ _ _); cbv) | ((with_reducible show okWr _ _ = _); rfl) | (simp only [hlt]; cbv) | ((with_reducible refine hA.row es _ _ ⟨hin, fun row hrow => ?_⟩); rw [e1] at hrow; subst hrow; cbv) | ((with_reducible first | refine callK_f hA hP h85 ?_ ?_ ?_); exact rfl; exact rfl; cbv) | ((with_reducible first | refine hA.fin_pl _ _ _ ?_ | refine hA.off _ _ _ _ fun b hb => ?_ | refine hA.gb0 true _ ?_ | refine hA.gb0 false _ ?_ | refine hA.gb _ _ fun vb hvb => ?_); cbv) | ((with_reducible first | refine hA.sapp _ _ _ ⟨?_, fun sl hsl => ?_⟩); rotate_left; cbv) | (simp only [hA.lits]; cbv)
    all_goals try simp only [hA.ar, inR, n_cast, Int.ofNat_eq_natCast, Option.getD_some, Option.getD_none] at *
    all_goals first
      | omega
      | (clear hK; grind; done)
      | (refine hK _ m _ (by omega) (Weak.keep (env' := [(7, .int (need - 1 + tk)), (1, .int (i - 1)), (0, .e (.sl es)), (2, .int w)]) ⟨rfl, rfl, rfl, rfl, trivial⟩) ⟨need - 1 + tk, i - 1, by omega, by omega, by grind, by grind, by grind, rfl⟩)
      | (trace_state; fail))
end Go.Proofs.Ytfplalbognalkaa.Ab
/- Expressions: valid, by the specification and by the program. -/
namespace Go.Proofs.Ytfplalbognalkaa.Ab
open Go
set_option maxRecDepth 100000 in
theorem ok144 (l : List (Int × Int)) (es : List (List E)) (he : es = l.map orow) (hlen : es.length ≤ 1048576) (w : Int) : Plain Try.prog 144 [.e (.sl es), .int w] (.bool (exOk l w)) := okOf mixed p144 fun A P hA hP => (by
  have hl1 : es.length = l.length := by rw [he]; simp
  obtain ⟨b, hb⟩ : ∃ b, b = back l w l.length 1 := ⟨_, rfl⟩
  have h62 := fun i => ok186 l es he hlen l.length (Nat.le_refl _) i w
  rw [← hb] at h62
  obtain ⟨r, hr⟩ : ∃ r, r = exOk l w := ⟨_, rfl⟩
  rw [← hr]
  have hr2 : r = decide (0 ≤ w ∧ 1 ≤ es.length ∧ es.length ≤ 5000 ∧ b = 0) := by rw [hr, hb, hl1]; rfl
  clear hr hb
  cbv
  repeat' first | with_reducible rfl | with_reducible refine And.intro ?_ ?_ | ((with_reducible intro hcc); first | (cases hcc; done) | skip) | ((with_reducible first | show goC _ _ _ _ _ _ _ _ | show goOps _ _ _ _ _ | show goD _ _ _ _ _ _); cbv) | ((with_reducible show okWr _ _ = _); rfl) | ((with_reducible refine callK_eq hA hP ?_ ?_ ?_ (Wks.refl _) (fun _ _ => h62 _ ?_)); exact rfl; exact rfl; cbv) | ((with_reducible first | refine hA.fin_pl _ _ _ ?_ | refine hA.len _ _ _ _ _ fun z hz hb => ?_ | refine hA.gb0 true _ ?_ | refine hA.gb0 false _ ?_ | refine hA.gb _ _ fun vb hvb => ?_); cbv) | (simp only [hA.lits]; cbv)
  all_goals try simp only [hA.ar, inR, n_cast, Int.ofNat_eq_natCast, Option.getD_some, Option.getD_none] at *
  all_goals first | omega | (simp at *; grind))
theorem fw_drop {w : Int} {l : List (Int × Int)} {i : Nat} {p : Int × Int} (h : l[i]? = some p) (x : Int) : fw w (l.drop i) x = if takes p w < 0 ∨ x < takes p w then -1 else fw w (l.drop (i + 1)) (x + 1 - takes p w) := by
  obtain ⟨a, b⟩ := List.getElem?_eq_some_iff.1 h
  rw [List.drop_eq_getElem_cons a, b]
  rfl
set_option maxRecDepth 100000 in
set_option maxHeartbeats 2000000 in
theorem ok181 (l : List (Int × Int)) (es : List (List E)) (he : es = l.map orow) (hlen : es.length ≤ 1048576) (w : Int) : Plain Try.prog 181 [.e (.sl es), .int w] (.bool (exOk l w)) := okOf mixed p181 fun A P hA hP => (by
  have hl1 : es.length = l.length := by rw [he]; simp
  obtain ⟨r, hr⟩ : ∃ r, r = exOk l w := ⟨_, rfl⟩
  rw [← hr]
  obtain ⟨c, hc⟩ : ∃ c : Bool, c = decide (fw w l 0 = 1) := ⟨_, rfl⟩
  have hr2 : r = (decide (es.length ≤ 5000 ∧ 0 ≤ w) && c) := by rw [hr, hc, hl1, exOk_fw]; by_cases a : l.length ≤ 5000 <;> by_cases b : 0 ≤ w <;> simp [a, b]
  clear hr
  cbv
  repeat' first | with_reducible rfl | with_reducible refine And.intro ?_ ?_ | ((with_reducible intro hcc); first | (cases hcc; done) | skip) | ((with_reducible first | show goC _ _ _ _ _ _ _ _ | show goOps _ _ _ _ _ | show goD _ _ _ _ _ _); cbv) | ((with_reducible show okWr _ _ = _); rfl) | ((with_reducible first | refine hA.fin_pl _ _ _ ?_ | refine hA.len _ _ _ _ _ fun z hz hb => ?_ | refine hA.off _ _ _ _ fun b hb => ?_ | refine hA.plus _ _ _ fun b hb => ?_ | refine hA.gb0 true _ ?_ | refine hA.gb0 false _ ?_ | refine hA.gb _ _ fun vb hvb => ?_); cbv) | ((with_reducible first | refine hA.st _ _ _ _ _ ⟨?_, fun ds hds => ?_⟩ | refine hA.sapp _ _ _ ⟨?_, fun sl hsl => ?_⟩); rotate_left; cbv) | (simp only [hA.lits]; cbv)
  all_goals try simp only [hA.ar, inR, n_cast, Int.ofNat_eq_natCast, Option.getD_some, Option.getD_none] at *
  all_goals try (first | omega | (clear hc; grind; done) | (clear hc; simp at *; grind; done))
  · have hrc : r = c := by clear hc; simp at *; grind
    refine hA.loopI (fun n s => ∃ i h : Int, 0 ≤ i ∧ n + i = es.length ∧ 0 ≤ h ∧ h ≤ i ∧ r = decide (fw w (l.drop i.toNat) h = 1) ∧
      s = ⟨[(18, .int i), (17, .int z), (16, .e (.sl es)), (5, .int h), (4, .bool false), (1, .int w)], []⟩) es.length _
      (Weak.keep (env' := [(18, .int 0), (17, .int _), (16, .e (.sl es)), (5, .int 0), (4, .bool false), (1, .int w)]) ⟨rfl, rfl, rfl, rfl, rfl, rfl, trivial⟩) ⟨0, 0, by omega, by omega, by omega, by omega, by rw [hrc, hc]; rfl, by rfl⟩ ?_
    rintro n s K ⟨i, h, h0, h1, h2, h3, h4, rfl⟩ hK
    by_cases hin : (0 : Int) ≤ i ∧ i < es.length
    · obtain ⟨⟨k, v⟩, e1, q1⟩ := row_op he hin
      rw [fw_drop q1] at h4
      obtain ⟨F, hF⟩ : ∃ F : Int → Bool, ∀ x, F x = decide (fw w (l.drop (i.toNat + 1)) x = 1) := ⟨_, fun _ => rfl⟩
      have h5 : r = if takes (k, v) w < 0 ∨ h < takes (k, v) w then false else F (h + 1 - takes (k, v) w) := by
        rw [h4, hF]; split <;> simp
      obtain ⟨tk, htk⟩ : ∃ tk, tk = takes (k, v) w := ⟨_, rfl⟩
      rw [← htk] at h5
      have f1 : tk < 0 → r = false := fun a => by rw [h5, if_pos (.inl a)]
      have f2 : h < tk → r = false := fun a => by rw [h5, if_pos (.inr a)]
      have hK2 : ∀ hh : Int, 0 ≤ tk → tk ≤ h → hh = h + 1 - tk → ∀ s1, Weak (hpF []) s1 ⟨[(18, .int (i + 1)), (17, .int z), (16, .e (.sl es)), (5, .int hh), (4, .bool false), (1, .int w)], []⟩ → K s1 := fun hh a b c s1 d => by
        refine hK s1 (n - 1) _ (by omega) d ⟨i + 1, hh, by omega, by omega, by omega, by omega, ?_, rfl⟩
        have : (i + 1).toNat = i.toNat + 1 := by omega
        rw [h5, if_neg (by omega), hF, this, c]
      have t1 : k = 1 → tk = 0 := fun e => by simp [htk, takes, e]
      have t2 : k = 2 → tk = if v = 0 then 0 else -1 := fun e => by simp [htk, takes, e]
      have t3 : k = 3 → tk = if 0 ≤ v ∧ v < w then 0 else -1 := fun e => by simp [htk, takes, e]
      have t4 : k = 4 → tk = if 1 ≤ v ∧ v ≤ 6 then 2 else -1 := fun e => by simp [htk, takes, e]
      have t5 : k = 5 ∨ k = 6 → tk = if v = 0 then 2 else -1 := fun e => by rcases e with e | e <;> simp [htk, takes, e]
      have t6 : k = 7 ∨ k = 8 → tk = if v = 0 then 1 else -1 := fun e => by rcases e with e | e <;> simp [htk, takes, e]
      have t7 : k < 1 ∨ 8 < k → tk = -1 := fun e => by simp only [htk, takes]; repeat (rw [if_neg (by omega)])
      clear hK hF h4 hr2 hrc hc h5 htk
      cbv
      repeat' first | with_reducible rfl | with_reducible refine And.intro ?_ ?_ | ((with_reducible intro hcc); first | (cases hcc; done) | skip) | ((with_reducible first | show goC _ _ _ _ _ _ _ _ | show goOps _ _ _ _ _ | show goD _ _ _ _ _ _); cbv) | ((with_reducible show okWr _ _ = _); rfl) | ((with_reducible refine hA.row es _ _ ⟨hin, fun row hrow => ?_⟩); rw [e1] at hrow; subst hrow; cbv) | ((with_reducible first | refine hA.fin_pl _ _ _ ?_ | refine hA.len _ _ _ _ _ fun z hz hb => ?_ | refine hA.off _ _ _ _ fun b hb => ?_ | refine hA.plus _ _ _ fun b hb => ?_ | refine hA.gb0 true _ ?_ | refine hA.gb0 false _ ?_ | refine hA.gb _ _ fun vb hvb => ?_); cbv) | ((with_reducible first | refine hA.st _ _ _ _ _ ⟨?_, fun ds hds => ?_⟩ | refine hA.sapp _ _ _ ⟨?_, fun sl hsl => ?_⟩); rotate_left; cbv) | (simp only [hA.lits]; cbv)
      all_goals try simp only [hA.ar, inR, n_cast, Int.ofNat_eq_natCast, Option.getD_some, Option.getD_none] at *
      all_goals first
        | omega
        | (clear hK2; grind; done)
        | (clear hK2; simp at *; grind; done)
        | (refine hK2 _ ?_ ?_ ?_ _ (Weak.gc ⟨rfl, rfl, rfl, rfl, rfl, rfl, trivial⟩ rfl)
           all_goals clear hK2 hin e1 q1 hl1 hlen he h1
           all_goals first | grind | (simp at *; grind))
    · have : l.drop i.toNat = [] := by rw [List.drop_eq_nil_iff]; omega
      rw [this] at h4
      have h5 : r = decide (h = 1) := h4
      clear h4 hK
      cbv
      repeat' first | with_reducible rfl | with_reducible refine And.intro ?_ ?_ | ((with_reducible intro hcc); first | (cases hcc; done) | skip) | ((with_reducible first | show goC _ _ _ _ _ _ _ _ | show goOps _ _ _ _ _ | show goD _ _ _ _ _ _); cbv) | ((with_reducible show okWr _ _ = _); rfl) | ((with_reducible refine hA.row0 _ _ _ fun p row => ?_); cbv) | ((with_reducible first | refine hA.fin_pl _ _ _ ?_ | refine hA.len _ _ _ _ _ fun z hz hb => ?_ | refine hA.off _ _ _ _ fun b hb => ?_ | refine hA.plus _ _ _ fun b hb => ?_ | refine hA.gb0 true _ ?_ | refine hA.gb0 false _ ?_ | refine hA.gb _ _ fun vb hvb => ?_); cbv) | ((with_reducible first | refine hA.st _ _ _ _ _ ⟨?_, fun ds hds => ?_⟩ | refine hA.sapp _ _ _ ⟨?_, fun sl hsl => ?_⟩); rotate_left; cbv) | (simp only [hA.lits]; cbv)
      all_goals try simp only [hA.ar, inR, n_cast, Int.ofNat_eq_natCast, Option.getD_some, Option.getD_none] at *
      all_goals first
        | omega
        | (simp at *; grind; done)
        | (trace_state; fail))
end Go.Proofs.Ytfplalbognalkaa.Ab
/- Flat plans: which are valid, as the program and as the specification say it; that both say the same. -/
namespace Go.Proofs.Ytfplalbognalkaa.Ab
open Go
structure Fd where
  K : Int
  T : Int
  M : Int
  W : Int
  Ex : List (Int × Int)
  Exs : List (List (Int × Int))
  L : Int
  R : Int
  deriving DecidableEq, Inhabited
abbrev orr (r : List (Int × Int)) : List E := [E.sl (r.map orow)]
abbrev fdr (d : Fd) : List E := [E.int d.K, E.int d.T, E.int d.M, E.int d.W, E.sl (d.Ex.map orow), E.sl (d.Exs.map orr), E.int d.L, E.int d.R]
/-! ### The specification -/
def two (k : Int) : Bool := decide (k = 5 ∨ k = 6 ∨ k = 7 ∨ k = 9 ∨ k = 10 ∨ k = 11)
def one (k : Int) : Bool := two k || decide (k = 3 ∨ k = 4 ∨ k = 8)
def mat (k : Int) : Bool := two k && decide (k ≠ 9)
def usS (k m : Int) : Bool := decide (k = 3 ∨ k = 6 ∨ k = 10 ∨ k = 11 ∨ (k = 7 ∧ m ≠ 1))
def plc (on : Bool) (p i : Int) : Bool := if on then decide (0 ≤ p ∧ p < i) else decide (p = 0)
def fldS (d : Fd) (i nt : Int) : Bool :=
  decide (1 ≤ d.K ∧ d.K ≤ 11) && ((if d.K = 2 then decide (0 ≤ d.T ∧ d.T < nt) else decide (d.T = 0)) && ((if d.K = 7 then decide (1 ≤ d.M ∧ d.M ≤ 4) else decide (d.M = 0)) &&
  (plc (one d.K) d.L i && (plc (two d.K) d.R i && ((mat d.K || decide (d.W = 0)) && ((usS d.K d.M || decide (d.Ex = [])) && (decide (d.K = 4) || decide (d.Exs = []))))))))
def widS (d : Fd) (cols : Int → Int) (l r : Int) : Int :=
  if d.K = 1 then 0 else if d.K = 2 then cols d.T else if mat d.K = true ∧ (d.W < 0 ∨ d.W > l ∨ d.W > r) then -1
  else if usS d.K d.M = true ∧ exOk d.Ex (if d.K = 3 then l else r) = false then -1
  else if (d.Exs.all fun e => exOk e l) = false then -1
  else if d.K = 4 then d.Exs.length else if d.K = 5 then l + r - d.W else if d.K = 6 ∨ d.K = 7 then l + 1 else if d.K = 9 ∧ l ≠ r then -1 else l
def at0 (on : Bool) (ws : List Int) (p : Int) : Int := if on then ws.getD p.toNat 0 else 0
def stS (nt : Int) (cols : Int → Int) (ws : List Int) (d : Fd) : Option Int :=
  if fldS d ws.length nt = true then
    let w := widS d cols (at0 (one d.K) ws d.L) (at0 (two d.K) ws d.R)
    if w < 0 ∨ w > 200 then none else some w
  else none
/-! ### The program -/
def lef (k : Int) : Bool := decide (3 ≤ k ∧ k ≤ 11)
def rig (k : Int) : Bool := decide (5 ≤ k ∧ k ≤ 7) || decide (9 ≤ k ∧ k ≤ 11)
def mtc (k : Int) : Bool := decide (5 ≤ k ∧ k ≤ 7) || (decide (k = 10) || decide (k = 11))
def usI (k m : Int) : Bool := decide (k = 3) || (decide (k = 6) || (decide (k = 10) || (decide (k = 11) || (decide (k = 7) && decide (1 < m)))))
def fldI (d : Fd) (i : Int) : Bool :=
  decide (1 ≤ d.K ∧ d.K ≤ 11) && (plc (lef d.K) d.L i && (plc (rig d.K) d.R i && ((decide (d.K = 2) || decide (d.T = 0)) && ((decide (d.K = 7) || decide (d.M = 0)) && ((mtc d.K || decide (d.W = 0)) &&
  ((!decide (d.K = 7) || decide (1 ≤ d.M ∧ d.M ≤ 4)) && ((usI d.K d.M || decide (d.Ex = [])) && (decide (d.K = 4) || decide (d.Exs = [])))))))))
def widI (d : Fd) (nt : Int) (cols : Int → Int) (l r : Int) : Int :=
  if mtc d.K = true ∧ (d.W < 0 ∨ d.W > min l r) then -1
  else if usI d.K d.M = true ∧ exOk d.Ex (if d.K = 3 then l else r) = false then -1
  else if d.K = 2 ∧ (d.T < 0 ∨ nt ≤ d.T) then -1
  else if d.K = 4 ∧ (d.Exs.all fun e => exOk e l) = false then -1
  else if d.K = 9 ∧ l ≠ r then -1
  else
    let w := if d.K = 2 then cols d.T else if d.K = 4 then (d.Exs.length : Int) else if d.K = 5 then l + r - d.W else if d.K = 6 ∨ d.K = 7 then l + 1 else l
    if w > 200 then -1 else w
def stI (nt : Int) (cols : Int → Int) (ws : List Int) (d : Fd) : Option Int :=
  if fldI d ws.length = true then
    let w := widI d nt cols (at0 (lef d.K) ws d.L) (at0 (rig d.K) ws d.R)
    if w < 0 then none else some w
  else none
theorem two_rig {k : Int} : rig k = two k := by unfold rig two; rw [Bool.eq_iff_iff]; simp; omega
theorem one_lef {k : Int} : lef k = one k := by rw [one, ← two_rig, rig, lef, Bool.eq_iff_iff]; simp; omega
theorem mat_mtc {k : Int} : mtc k = mat k := by rw [mat, ← two_rig, rig, mtc, Bool.eq_iff_iff]; simp; omega
theorem us_us {k m : Int} (h : k = 7 → 1 ≤ m) : usI k m = usS k m := by unfold usI usS; rw [Bool.eq_iff_iff]; simp; omega
theorem st_eqF (nt : Int) (cols : Int → Int) (ws : List Int) (d : Fd) : stI nt cols ws d = stS nt cols ws d := by
  obtain ⟨K, T, M, W, Ex, Exs, L, R⟩ := d
  unfold stI stS fldI fldS
  simp only [two_rig, one_lef, mat_mtc]
  by_cases hM : K = 7 ∧ ¬ (1 ≤ M ∧ M ≤ 4)
  · simp [hM.1, hM.2]
  · have hu : usI K M = usS K M := us_us fun h => by omega
    unfold widI widS
    simp only [hu, mat_mtc]
    obtain ⟨l, hl⟩ : ∃ l, l = at0 (one K) ws L := ⟨_, rfl⟩
    obtain ⟨r, hr⟩ : ∃ l, l = at0 (two K) ws R := ⟨_, rfl⟩
    rw [← hl, ← hr]
    have hl0 : one K = false → l = 0 := fun h => by rw [hl, h]; rfl
    obtain ⟨x1, hx1⟩ : ∃ x, x = plc (one K) L ws.length := ⟨_, rfl⟩
    obtain ⟨x2, hx2⟩ : ∃ x, x = plc (two K) R ws.length := ⟨_, rfl⟩
    rw [← hx1, ← hx2]
    obtain ⟨x3, hx3⟩ : ∃ x, x = exOk Ex (if K = 3 then l else r) := ⟨_, rfl⟩
    obtain ⟨x4, hx4⟩ : ∃ x, x = Exs.all fun e => exOk e l := ⟨_, rfl⟩
    have h4 : Exs = [] → x4 = true := fun h => by rw [hx4, h]; rfl
    rw [← hx3, ← hx4]
    clear hx1 hx2 hx3 hx4 hl hr hu
    have hK : K = 1 ∨ K = 2 ∨ K = 3 ∨ K = 4 ∨ K = 5 ∨ K = 6 ∨ K = 7 ∨ K = 8 ∨ K = 9 ∨ K = 10 ∨ K = 11 ∨ ¬ (1 ≤ K ∧ K ≤ 11) := by omega
    rcases hK with rfl | rfl | rfl | rfl | rfl | rfl | rfl | rfl | rfl | rfl | rfl | hK
    case inr.inr.inr.inr.inr.inr.inr.inr.inr.inr.inr => simp [hK]
    all_goals simp [one, two, mat, usS] at hl0 ⊢
    all_goals first | grind | (trace_state; fail)
end Go.Proofs.Ytfplalbognalkaa.Ab
/- Plans: which are valid, and their widths, as the specification and as the program say it. -/
namespace Go.Proofs.Ytfplalbognalkaa.Ab
open Go
structure Pd where
  K : Int
  T : Int
  M : Int
  Ex : List (Int × Int)
  Exs : List (List (Int × Int))
  L : Int
  R : Int
  deriving DecidableEq, Inhabited
abbrev pdr (d : Pd) : List E := [E.int d.K, E.int d.T, E.int d.M, E.sl (d.Ex.map orow), E.sl (d.Exs.map orr), E.int d.L, E.int d.R]
def hasL (k : Int) : Bool := decide (3 ≤ k ∧ k ≤ 10)
def hasR (k : Int) : Bool := decide (5 ≤ k ∧ k ≤ 8) || decide (k = 10)
def depK (k : Int) : Bool := decide (k = 6 ∨ k = 7 ∨ k = 8)
/-- The kids of a node, from the last. -/
def kidsP (d : Pd) : List Int := (if hasR d.K then [d.R] else []) ++ (if hasL d.K then [d.L] else [])
/-- A node's kind is one of the kinds, and the places that it does not use are 0. -/
def formP (d : Pd) : Bool := decide (1 ≤ d.K ∧ d.K ≤ 10) && ((hasR d.K || decide (d.R = 0)) && (hasL d.K || decide (d.L = 0)))
/-- Where the stretch of a node begins, by both; -1: not in order. -/
def frN (ns : List Pd) : Nat → Int → Int
  | 0, _ => -1
  | n + 1, i => if formP (ns.getD i.toNat default) = true then chain (frN ns n) (kidsP (ns.getD i.toNat default)) i else -1
/-- As the specification says it. -/
def l3F (ns : List Pd) : Nat → Int → Int
  | 0, _ => -1
  | n + 1, i =>
    let d := ns.getD i.toNat default
    if i < 0 ∨ ¬ (1 ≤ d.K ∧ d.K ≤ 10) then -1
    else if d.K = 1 ∨ d.K = 2 then (if d.L ≠ 0 ∨ d.R ≠ 0 then -1 else i)
    else if hasR d.K = false then (if d.L ≠ i - 1 ∨ d.R ≠ 0 then -1 else l3F ns n (i - 1))
    else if d.R ≠ i - 1 then -1
    else if l3F ns n (i - 1) < 1 ∨ d.L ≠ l3F ns n (i - 1) - 1 then -1 else l3F ns n (l3F ns n (i - 1) - 1)
theorem l3F_neg (ns : List Pd) (n : Nat) {i : Int} (h : i < 0) : l3F ns n i = -1 := by
  cases n with
  | zero => rfl
  | succ n => simp only [l3F]; rw [if_pos (.inl h)]
theorem l3F_lo (ns : List Pd) : ∀ (n : Nat) (i : Int), -1 ≤ l3F ns n i
  | 0, i => by simp [l3F]
  | n + 1, i => by
    have h1 := l3F_lo ns n (i - 1)
    have h2 := l3F_lo ns n (l3F ns n (i - 1) - 1)
    simp only [l3F]
    repeat' split
    all_goals omega
theorem frN_eq (ns : List Pd) : ∀ (n : Nat) (i : Int), 0 ≤ i → frN ns n i = l3F ns n i
  | 0, i, _ => rfl
  | n + 1, i, hi => by
    have ih := frN_eq ns n
    obtain ⟨d, hd⟩ : ∃ d, d = ns.getD i.toNat default := ⟨_, rfl⟩
    simp only [frN, l3F]
    rw [← hd]
    have lo := l3F_lo ns n
    have ng := fun (j : Int) (h : j < 0) => l3F_neg ns n h
    obtain ⟨K, T, M, Ex, Exs, L, R⟩ := d
    by_cases hK : 1 ≤ K ∧ K ≤ 10
    case neg => rw [if_neg (by simp [formP, hK]), if_pos (.inr hK)]
    case pos =>
    rw [if_neg (show ¬ (i < 0 ∨ ¬ (1 ≤ K ∧ K ≤ 10)) by omega)]
    by_cases h0 : i < 1
    · have e : l3F ns n (i - 1) = -1 := ng _ (by omega)
      have c : K = 1 ∨ K = 2 ∨ (3 ≤ K ∧ hasR K = false) ∨ (3 ≤ K ∧ hasR K = true) := by
        cases hasR K <;> simp <;> omega
      rcases c with rfl | rfl | ⟨c, c2⟩ | ⟨c, c2⟩
      · simp [formP, kidsP, hasL, hasR, chain]; grind
      · simp [formP, kidsP, hasL, hasR, chain]; grind
      · have hl : hasL K = true := by simp [hasL]; omega
        simp [formP, kidsP, c2, hl, chain, h0, hK, e, show ¬ K = 1 by omega, show ¬ K = 2 by omega]
      · have hl : hasL K = true := by simp [hasL]; omega
        simp [formP, kidsP, c2, hl, chain, h0, hK, e, show ¬ K = 1 by omega, show ¬ K = 2 by omega]
    · have e := ih (i - 1) (by omega)
      have lo1 := lo (i - 1)
      have c : K = 1 ∨ K = 2 ∨ (3 ≤ K ∧ hasR K = false) ∨ (3 ≤ K ∧ hasR K = true) := by
        cases hasR K <;> simp <;> omega
      rcases c with rfl | rfl | ⟨c, c2⟩ | ⟨c, c2⟩
      · simp [formP, kidsP, hasL, hasR, chain]; grind
      · simp [formP, kidsP, hasL, hasR, chain]; grind
      · have hl : hasL K = true := by simp [hasL]; omega
        simp [formP, kidsP, c2, hl, chain, h0, hK, e, show ¬ K = 1 by omega, show ¬ K = 2 by omega]
        obtain ⟨a, ha⟩ : ∃ a, a = l3F ns n (i - 1) := ⟨_, rfl⟩
        rw [← ha] at lo1 ⊢
        clear ih lo ng e
        grind
      · have hl : hasL K = true := by simp [hasL]; omega
        simp only [formP, kidsP, c2, hl, chain, if_true, List.singleton_append, hK, e]
        obtain ⟨a, ha⟩ : ∃ a, a = l3F ns n (i - 1) := ⟨_, rfl⟩
        rw [← ha] at lo1 ⊢
        have e2 : 1 ≤ a → frN ns n (a - 1) = l3F ns n (a - 1) := fun h => ih _ (by omega)
        have lo2 := lo (a - 1)
        by_cases ha1 : 1 ≤ a
        · rw [e2 ha1]
          obtain ⟨b, hb⟩ : ∃ b, b = l3F ns n (a - 1) := ⟨_, rfl⟩
          rw [← hb] at lo2 ⊢
          clear ih lo ng e e2
          simp
          grind
        · clear ih lo ng e e2
          simp
          grind
end Go.Proofs.Ytfplalbognalkaa.Ab
/- Plans: widths, as the specification and as the program say it. -/
namespace Go.Proofs.Ytfplalbognalkaa.Ab
open Go
/-- The fields of a node that its kind does not use are 0 or empty, T and M right: the specification. -/
def usedS (d : Pd) (nt : Int) : Bool :=
  (decide (d.K = 2) || decide (d.T = 0)) && ((!decide (d.K = 2) || decide (0 ≤ d.T ∧ d.T < nt)) && ((decide (d.K = 8) || decide (d.M = 0)) && ((!decide (d.K = 8) || decide (1 ≤ d.M ∧ d.M ≤ 4)) &&
  (((decide (d.K = 3) || (decide (d.K = 7) || (decide (d.K = 8) && decide (d.M ≠ 1)))) || decide (d.Ex = [])) && (decide (d.K = 4) || decide (d.Exs = []))))))
/-- The same: the program (T is looked at later). -/
def usedI (d : Pd) : Bool :=
  (decide (d.K = 2) || decide (d.T = 0)) && ((decide (d.K = 8) || decide (d.M = 0)) && (((decide (d.K = 3) || (decide (d.K = 7) || (decide (d.K = 8) && decide (1 < d.M)))) || decide (d.Ex = [])) && ((decide (d.K = 4) || decide (d.Exs = [])) && (!decide (d.K = 8) || decide (1 ≤ d.M ∧ d.M ≤ 4)))))
/-- The width of a node over widths of its kids, in an environment; -1: not valid. -/
def ndS (d : Pd) (cols : Int → Int) (env l r : Int) : Int :=
  if d.K = 3 ∧ exOk d.Ex (env + l) = false then -1
  else if d.K = 4 ∧ (d.Exs.all fun e => exOk e (env + l)) = false then -1
  else if (d.K = 7 ∨ d.K = 8) ∧ d.M ≠ 1 ∧ exOk d.Ex (env + l + r) = false then -1
  else if d.K = 10 ∧ l ≠ r then -1
  else
    let w := if d.K = 2 then cols d.T else if d.K = 4 then (d.Exs.length : Int) else if d.K = 5 ∨ d.K = 6 then l + r else if d.K = 7 ∨ d.K = 8 then l + 1 else l
    if env + w > 200 then -1 else w
def wS (ns : List Pd) (nt : Int) (cols : Int → Int) : Nat → Int → Int → Int
  | 0, _, _ => -1
  | n + 1, i, env =>
    let d := ns.getD i.toNat default
    if usedS d nt = false then -1 else
    let l := if hasL d.K then wS ns nt cols n d.L env else 0
    if l < 0 then -1 else
    let r := if hasR d.K then wS ns nt cols n d.R (if depK d.K then env + l else env) else 0
    if r < 0 then -1 else ndS d cols env l r
/-- The program: none for nil. -/
def ndI (d : Pd) (nt : Int) (cols : Int → Int) (env l r : Int) : Option Int :=
  let w : Option Int :=
    if d.K = 1 then some 0
    else if d.K = 2 then (if d.T < 0 ∨ nt ≤ d.T then none else some (cols d.T))
    else if d.K = 3 then (if exOk d.Ex (env + l) = true then some l else none)
    else if d.K = 4 then (if (d.Exs.any fun e => !exOk e (env + l)) = false then some d.Exs.length else none)
    else if d.K = 5 ∨ d.K = 6 then some (l + r)
    else if d.K = 7 then (if exOk d.Ex (env + l + r) = true then some (l + 1) else none)
    else if d.K = 8 then (if d.M = 1 ∨ exOk d.Ex (env + l + r) = true then some (l + 1) else none)
    else if d.K = 9 then some l
    else if d.K = 10 then (if l = r then some l else none)
    else none
  match w with
  | none => none
  | some w => if w + env > 200 then none else some w
def wI (ns : List Pd) (nt : Int) (cols : Int → Int) : Nat → Int → Int → Option Int
  | 0, _, _ => none
  | n + 1, i, env =>
    let d := ns.getD i.toNat default
    if usedI d = false then none else
    match (if hasL d.K then wI ns nt cols n d.L env else some 0) with
    | none => none
    | some l => match (if hasR d.K then wI ns nt cols n d.R (if depK d.K then env + l else env) else some 0) with
      | none => none
      | some r => ndI d nt cols env l r
end Go.Proofs.Ytfplalbognalkaa.Ab
/- Plans: both widths are the same. -/
namespace Go.Proofs.Ytfplalbognalkaa.Ab
open Go
theorem nd_eq {d : Pd} {nt : Int} {cols : Int → Int} {env l r : Int} (hK : 1 ≤ d.K ∧ d.K ≤ 10) (hT : d.K = 2 → 0 ≤ d.T ∧ d.T < nt ∧ 0 ≤ cols d.T) (hl : 0 ≤ l) (hr : 0 ≤ r) (h0 : d.K = 1 → l = 0) (hM : d.K = 7 → d.M = 0) :
    ndI d nt cols env l r = if ndS d cols env l r < 0 then none else some (ndS d cols env l r) := by
  obtain ⟨K, T, M, Ex, Exs, L, R⟩ := d
  unfold ndI ndS
  simp only at hK hT h0 hM ⊢
  have ha : (Exs.any fun e => !exOk e (env + l)) = !(Exs.all fun e => exOk e (env + l)) := by rw [List.not_all_eq_any_not]
  rw [ha]
  obtain ⟨al, hal⟩ : ∃ b, b = Exs.all fun e => exOk e (env + l) := ⟨_, rfl⟩
  obtain ⟨e1, he1⟩ : ∃ b, b = exOk Ex (env + l) := ⟨_, rfl⟩
  obtain ⟨e2, he2⟩ : ∃ b, b = exOk Ex (env + l + r) := ⟨_, rfl⟩
  rw [← hal, ← he1, ← he2]
  clear hal he1 he2 ha
  have c : K = 1 ∨ K = 2 ∨ K = 3 ∨ K = 4 ∨ K = 5 ∨ K = 6 ∨ K = 7 ∨ K = 8 ∨ K = 9 ∨ K = 10 := by omega
  rcases c with rfl | rfl | rfl | rfl | rfl | rfl | rfl | rfl | rfl | rfl
  all_goals simp at hT h0 hM ⊢
  all_goals grind
theorem used_eq {d : Pd} {nt : Int} (h : d.K = 2 → 0 ≤ d.T ∧ d.T < nt) : usedS d nt = usedI d := by
  obtain ⟨K, T, M, Ex, Exs, L, R⟩ := d
  unfold usedS usedI
  simp only at h ⊢
  rw [Bool.eq_iff_iff]
  simp
  grind
end Go.Proofs.Ytfplalbognalkaa.Ab
/- Plans: both widths are the same, for all nodes. -/
namespace Go.Proofs.Ytfplalbognalkaa.Ab
open Go
/-- Kinds and kids of all nodes are in their ranges. -/
def InP (ns : List Pd) : Prop := ∀ j : Int, 0 ≤ j → j < ns.length → (1 ≤ (ns.getD j.toNat default).K ∧ (ns.getD j.toNat default).K ≤ 10) ∧ (hasL (ns.getD j.toNat default).K = true → 0 ≤ (ns.getD j.toNat default).L ∧ (ns.getD j.toNat default).L < j) ∧ (hasR (ns.getD j.toNat default).K = true → 0 ≤ (ns.getD j.toNat default).R ∧ (ns.getD j.toNat default).R < j)
theorem w_eq {ns : List Pd} {nt : Int} {cols : Int → Int} (hK : InP ns) (hc : ∀ t, 0 ≤ t → t < nt → 0 ≤ cols t) :
    ∀ (n : Nat) (i env : Int), 0 ≤ i → i < ns.length → wI ns nt cols n i env = if wS ns nt cols n i env < 0 then none else some (wS ns nt cols n i env)
  | 0, i, env, _, _ => by simp [wI, wS]
  | n + 1, i, env, hi0, hi1 => by
    have ih := w_eq hK hc n
    obtain ⟨hk, hkl, hkr⟩ := hK i hi0 hi1
    obtain ⟨d, hd⟩ : ∃ d, d = ns.getD i.toNat default := ⟨_, rfl⟩
    simp only [wI, wS]
    rw [← hd] at hk hkl hkr ⊢
    by_cases hT : d.K = 2 → 0 ≤ d.T ∧ d.T < nt
    case neg =>
      have h2 : d.K = 2 := by
        by_cases h : d.K = 2
        · exact h
        · exact absurd (fun q => absurd q h) hT
      have h3 : ¬ (0 ≤ d.T ∧ d.T < nt) := fun q => hT fun _ => q
      have h4 : usedS d nt = false := by simp [usedS, h2]; grind
      have h5 : hasL d.K = false := by simp [hasL, h2]
      have h6 : hasR d.K = false := by simp [hasR, h2]
      rw [h4, h5, h6]
      simp [ndI, h2]
      grind
    case pos =>
      rw [used_eq hT]
      cases hu : usedI d
      · simp
      · have hM : d.K = 7 → d.M = 0 := fun h => by simp [usedI, h] at hu; grind
        simp only [Bool.true_eq_false, if_false]
        obtain ⟨l, hl⟩ : ∃ l, l = if hasL d.K then wS ns nt cols n d.L env else 0 := ⟨_, rfl⟩
        have e1 : (if hasL d.K = true then wI ns nt cols n d.L env else some 0) = if l < 0 then none else some l := by
          rw [hl]
          cases hll : hasL d.K
          · simp
          · obtain ⟨a, b⟩ := hkl hll
            simp [ih d.L env a (by omega)]
        rw [e1, ← hl]
        by_cases hl0 : l < 0
        · simp [hl0]
        · rw [if_neg hl0]
          simp only
          obtain ⟨r, hr⟩ : ∃ r, r = if hasR d.K then wS ns nt cols n d.R (if depK d.K then env + l else env) else 0 := ⟨_, rfl⟩
          have e2 : (if hasR d.K = true then wI ns nt cols n d.R (if depK d.K then env + l else env) else some 0) = if r < 0 then none else some r := by
            rw [hr]
            cases hrr : hasR d.K
            · simp
            · obtain ⟨a, b⟩ := hkr hrr
              simp [ih d.R (if depK d.K then env + l else env) a (by omega)]
          rw [e2, ← hr]
          by_cases hr0 : r < 0
          · simp [hr0, hl0]
          · rw [if_neg hr0, if_neg hl0]
            simp only [hr0, if_false]
            exact nd_eq hk (fun h => ⟨(hT h).1, (hT h).2, hc _ (hT h).1 (hT h).2⟩) (by omega) (by omega) (fun h => by rw [hl]; simp [hasL, h]) hM
end Go.Proofs.Ytfplalbognalkaa.Ab
/- Names: valid, by the specification and by the program. -/
namespace Go.Proofs.Ytfplalbognalkaa.Ab
open Go
set_option maxRecDepth 100000 in
set_option maxHeartbeats 1000000 in
theorem ok163 (s : List UInt8) : Plain Try.prog 163 [.str s] (.bool (isWord s)) := okOf mixed p163 fun A P hA hP => (by
  obtain ⟨r, hr⟩ : ∃ r, r = isWord s := ⟨_, rfl⟩
  rw [← hr]
  cbv
  repeat' first | with_reducible rfl | with_reducible refine And.intro ?_ ?_ | ((with_reducible intro hcc); first | (cases hcc; done) | skip) | ((with_reducible first | show goC _ _ _ _ _ _ _ _ | show goOps _ _ _ _ _ | show goD _ _ _ _ _ _); cbv) | ((with_reducible show okWr _ _ = _); rfl) | ((with_reducible first | refine hA.fin_pl _ _ _ ?_ | refine hA.slen _ _ _ _ _ fun z hz hb => ?_ | refine hA.six _ _ _ fun z6 c hz6 hc hc2 => ?_ | refine hA.gb0 true _ ?_ | refine hA.gb0 false _ ?_ | refine hA.gb _ _ fun vb hvb => ?_); cbv) | ((with_reducible first | refine hA.sapp _ _ _ ⟨?_, fun sl hsl => ?_⟩); rotate_left; cbv) | (simp only [hA.lits]; cbv)
  all_goals try simp only [hA.ar, inR, n_cast, Int.ofNat_eq_natCast, Option.getD_some, Option.getD_none] at *
  refine hA.loopI (fun n st => ∃ i : Int, 0 ≤ i ∧ n + i = s.length ∧ (∀ j : Nat, j < i → okAt s j = true) ∧ st = ⟨[(3, .int i), (2, .bool false), (0, .str s)], []⟩) s.length _
    (Weak.keep (env' := [(3, .int 0), (2, .bool false), (0, .str s)]) ⟨rfl, rfl, rfl, trivial⟩) ⟨0, by omega, by omega, fun j hj => by omega, rfl⟩ ?_
  rintro n st K ⟨i, h0, h1, h2, rfl⟩ hK
  by_cases hin : i < s.length
  · obtain ⟨cN, hcN⟩ : ∃ cN, cN = (s.getD i.toNat 0).toNat := ⟨_, rfl⟩
    have hch : chAt s i.toNat = (cN : Int) := by rw [chAt, hcN]
    have e102 := ok192 (cN : Int)
    have e103 := ok193 (cN : Int)
    obtain ⟨bl, hbl⟩ : ∃ b, b = isLet (cN : Int) := ⟨_, rfl⟩
    obtain ⟨bd, hbd⟩ : ∃ b, b = isDig (cN : Int) := ⟨_, rfl⟩
    rw [← hbl] at e102
    rw [← hbd] at e103
    obtain ⟨o, ho⟩ : ∃ o, o = okAt s i.toNat := ⟨_, rfl⟩
    have ho2 : o = (bl || (decide (i ≠ 0) && (bd || decide ((cN : Int) = 95)))) := by
      rw [ho, okAt, hch, ← hbl, ← hbd]
      have : decide (i.toNat ≠ 0) = decide (i ≠ 0) := by rw [decide_eq_decide]; omega
      rw [this]
    have f1 : o = false → r = false := fun e => by
      rw [hr, isWord, decide_eq_false_iff_not]
      intro ⟨_, q⟩
      have := q i.toNat (by omega)
      rw [← ho, e] at this
      cases this
    have f2 : o = true → ∀ s1, Weak (hpF []) s1 ⟨[(3, .int (i + 1)), (2, .bool false), (0, .str s)], []⟩ → K s1 := fun e s1 hw => by
      refine hK s1 (n - 1) _ (by omega) hw ⟨i + 1, by omega, by omega, fun j hj => ?_, rfl⟩
      by_cases hji : (j : Int) < i
      · exact h2 j hji
      · have : j = i.toNat := by omega
        rw [this, ← ho]; exact e
    clear hK h2 hr ho hbl hbd hch
    cbv
    repeat' first | with_reducible rfl | with_reducible refine And.intro ?_ ?_ | ((with_reducible intro hcc); first | (cases hcc; done) | skip) | ((with_reducible first | show goC _ _ _ _ _ _ _ _ | show goOps _ _ _ _ _ | show goD _ _ _ _ _ _); cbv) | ((with_reducible show okWr _ _ = _); rfl) | ((with_reducible first | refine callK_f hA hP e102 ?_ ?_ ?_ | refine callK_f hA hP e103 ?_ ?_ ?_); exact rfl; exact rfl; cbv) | ((with_reducible refine hA.six _ _ _ fun z6 c hz6 hc hc2 => ?_); (have e6 : cN = c := (by rw [hc, hcN])); subst e6; cbv) | ((with_reducible first | refine hA.fin_pl _ _ _ ?_ | refine hA.slen _ _ _ _ _ fun z hz hb => ?_ | refine hA.six _ _ _ fun z6 c hz6 hc hc2 => ?_ | refine hA.gb0 true _ ?_ | refine hA.gb0 false _ ?_ | refine hA.gb _ _ fun vb hvb => ?_); cbv) | ((with_reducible first | refine hA.sapp _ _ _ ⟨?_, fun sl hsl => ?_⟩); rotate_left; cbv) | (simp only [hA.lits]; cbv)
    all_goals try simp only [hA.ar, inR, n_cast, Int.ofNat_eq_natCast, Option.getD_some, Option.getD_none] at *
    all_goals first
      | omega
      | (refine f2 ?_ _ (Weak.keep ⟨rfl, rfl, rfl, trivial⟩); clear f2 f1 hcN hc; grind; done)
      | (rw [f1 (by clear f2 f1 hcN hc; grind)]; done)
      | (clear f2 f1 hcN hc; grind; done)
      | (clear f2 f1 hcN; simp at *; omega)
      | (trace_state; fail)
  · have hr2 : r = decide (0 < s.length) := by
      rw [hr, isWord, decide_eq_decide]
      exact ⟨fun q => q.1, fun q => ⟨q, fun j hj => h2 j (by omega)⟩⟩
    clear hr hK h2
    cbv
    repeat' first | with_reducible rfl | with_reducible refine And.intro ?_ ?_ | ((with_reducible intro hcc); first | (cases hcc; done) | skip) | ((with_reducible first | show goC _ _ _ _ _ _ _ _ | show goOps _ _ _ _ _ | show goD _ _ _ _ _ _); cbv) | ((with_reducible show okWr _ _ = _); rfl) | (exfalso; simp only [hA.lt, hA.sub, decide_eq_true_eq, decide_eq_false_iff_not, n_cast] at *; omega) | ((with_reducible first | refine hA.fin_pl _ _ _ ?_ | refine hA.slen _ _ _ _ _ fun z hz hb => ?_ | refine hA.six _ _ _ fun z6 c hz6 hc hc2 => ?_ | refine hA.gb0 true _ ?_ | refine hA.gb0 false _ ?_ | refine hA.gb _ _ fun vb hvb => ?_); cbv) | ((with_reducible first | refine hA.sapp _ _ _ ⟨?_, fun sl hsl => ?_⟩); rotate_left; cbv) | (simp only [hA.lits]; cbv)
    all_goals try simp only [hA.ar, inR, n_cast, Int.ofNat_eq_natCast, Option.getD_some, Option.getD_none] at *
    all_goals first
      | (rw [hr2]; congr 3; rw [decide_eq_decide]; omega)
      | omega
      | (trace_state; fail))
theorem ok115 (s : List UInt8) : Plain Try.prog 115 [.str s] (.bool (nameB s)) := okOf mixed p115 fun A P hA hP => (by
  obtain ⟨w, hw⟩ : ∃ w, w = isWord s := ⟨_, rfl⟩
  obtain ⟨k, hk⟩ : ∃ k, k = keyB s := ⟨_, rfl⟩
  have h87 := ok163 s
  have h88 := ok164 s
  have hn : nameB s = (w && (decide (s.length ≤ 64) && !k)) := by rw [hw, hk]; rfl
  rw [hn]
  rw [← hw] at h87
  rw [← hk] at h88
  obtain ⟨n, hn⟩ : ∃ n, n = s.length := ⟨_, rfl⟩
  rw [← hn]
  clear hw hk
  cbv
  repeat' first | with_reducible rfl | with_reducible refine And.intro ?_ ?_ | ((with_reducible intro hcc); first | (cases hcc; done) | skip) | ((with_reducible first | show goC _ _ _ _ _ _ _ _ | show goOps _ _ _ _ _ | show goD _ _ _ _ _ _); cbv) | ((with_reducible show okWr _ _ = _); rfl) | ((with_reducible first | refine callK_f hA hP h87 ?_ ?_ ?_ | refine callK_f hA hP h88 ?_ ?_ ?_); exact rfl; exact rfl; cbv) | ((with_reducible first | refine hA.fin_pl _ _ _ ?_ | refine hA.slen _ _ _ _ _ fun z hz hb => ?_ | refine hA.gb0 true _ ?_ | refine hA.gb0 false _ ?_ | refine hA.gb _ _ fun vb hvb => ?_); cbv) | (simp only [hA.lits]; cbv)
  all_goals try simp only [hA.ar, inR, n_cast, Int.ofNat_eq_natCast, Option.getD_some, Option.getD_none] at *
  all_goals first
    | omega
    | (clear h87 h88; grind; done)
    | (clear h87 h88; simp at *; grind; done)
    | (trace_state; fail))
end Go.Proofs.Ytfplalbognalkaa.Ab
/- Names: valid, by the program. -/
namespace Go.Proofs.Ytfplalbognalkaa.Ab
open Go
theorem nameB_false (s : List UInt8) : (s.length < 1 → nameB s = false) ∧ (64 < s.length → nameB s = false) ∧ (1 ≤ s.length → isLet (chAt s 0) = false → nameB s = false) ∧ (keyB s = true → nameB s = false) ∧
    (∀ j, j < s.length → isLet (chAt s j) = false → isDig (chAt s j) = false → chAt s j ≠ 95 → nameB s = false) ∧
    (1 ≤ s.length → s.length ≤ 64 → isLet (chAt s 0) = true → keyB s = false → (∀ j, j < s.length → (isLet (chAt s j) || (isDig (chAt s j) || decide (chAt s j = 95))) = true) → nameB s = true) := by
  have hw : ∀ j, j < s.length → okAt s j = false → isWord s = false := fun j hj e => by
    rw [isWord, decide_eq_false_iff_not]
    intro ⟨_, q⟩
    rw [q j hj] at e; cases e
  refine ⟨fun h => ?_, fun h => ?_, fun h e => ?_, fun h => ?_, fun j hj e1 e2 e3 => ?_, fun h1 h2 e1 e2 q => ?_⟩
  · have : isWord s = false := by rw [isWord, decide_eq_false_iff_not]; intro ⟨q, _⟩; omega
    simp [nameB, this]
  · simp [nameB, show ¬ s.length ≤ 64 by omega]
  · simp [nameB, hw 0 (by omega) (by simp [okAt, e])]
  · simp [nameB, h]
  · simp [nameB, hw j hj (by simp [okAt, e1, e2, e3])]
  · have : isWord s = true := by
      rw [isWord, decide_eq_true_eq]
      refine ⟨by omega, fun j hj => ?_⟩
      have := q j hj
      by_cases h0 : j = 0
      · subst h0; simp [okAt, e1]
      · simpa [okAt, h0] using this
    simp [nameB, this, h2, e2]
set_option maxRecDepth 100000 in
set_option maxHeartbeats 1000000 in
theorem ok119 (s : List UInt8) : Plain Try.prog 119 [.str s] (.bool (nameB s)) := okOf mixed p119 fun A P hA hP => (by
  obtain ⟨g1, g2, g3, g4, g5, g6⟩ := nameB_false s
  obtain ⟨r, hr⟩ : ∃ r, r = nameB s := ⟨_, rfl⟩
  rw [← hr] at g1 g2 g3 g4 g5 g6 ⊢
  obtain ⟨c0, hc0⟩ : ∃ c, c = (s.getD 0 0).toNat := ⟨_, rfl⟩
  have hch0 : chAt s 0 = (c0 : Int) := by rw [chAt, hc0]
  rw [hch0] at g3 g6
  obtain ⟨b0, hb0⟩ : ∃ b, b = isLet (c0 : Int) := ⟨_, rfl⟩
  have e90 := ok166 (c0 : Int)
  rw [← hb0] at g3 g6 e90
  have e91 := ok167 s
  obtain ⟨kb, hkb⟩ : ∃ b, b = keyB s := ⟨_, rfl⟩
  rw [← hkb] at g4 g6 e91
  clear hr hb0 hkb hch0
  cbv
  repeat' first | with_reducible rfl | with_reducible refine And.intro ?_ ?_ | ((with_reducible intro hcc); first | (cases hcc; done) | skip) | ((with_reducible first | show goC _ _ _ _ _ _ _ _ | show goOps _ _ _ _ _ | show goD _ _ _ _ _ _); cbv) | ((with_reducible show okWr _ _ = _); rfl) | ((with_reducible first | refine callK_f hA hP e90 ?_ ?_ ?_ | refine callK_f hA hP e91 ?_ ?_ ?_); exact rfl; exact rfl; cbv) | ((with_reducible refine hA.six _ _ _ fun z6 c hz6 hc hc2 => ?_); (have e6 : c0 = c := (by rw [hc, hc0]; rfl)); subst e6; cbv) | ((with_reducible first | refine hA.fin_pl _ _ _ ?_ | refine hA.slen _ _ _ _ _ fun z hz hb => ?_ | refine hA.six _ _ _ fun z6 c hz6 hc hc2 => ?_ | refine hA.gb0 true _ ?_ | refine hA.gb0 false _ ?_ | refine hA.gb _ _ fun vb hvb => ?_); cbv) | ((with_reducible first | refine hA.sapp _ _ _ ⟨?_, fun sl hsl => ?_⟩); rotate_left; cbv) | (simp only [hA.lits]; cbv)
  all_goals try simp only [hA.ar, inR, n_cast, Int.ofNat_eq_natCast, Option.getD_some, Option.getD_none] at *
  all_goals try (first
    | omega
    | (clear g1 g2 g3 g4 g5 g6 hc0; simp at *; omega)
    | (clear g1 g2 g3 g4 g5 g6; simp at *; grind; done))
  · have hfalse : r = false := by
      have q1 : (s.length : Int) < 1 ∨ 64 < (s.length : Int) ∨ (1 ≤ (s.length : Int) ∧ b0 = false) ∨ kb = true := by
        clear g1 g2 g3 g4 g5 g6
        simp at *
        grind
      rcases q1 with q | q | ⟨q, q'⟩ | q
      · exact g1 (by omega)
      · exact g2 (by omega)
      · exact g3 (by omega) q'
      · exact g4 q
    rw [hfalse]
  · have q1 : 1 ≤ (s.length : Int) ∧ (s.length : Int) ≤ 64 ∧ b0 = true ∧ kb = false := by
      clear g1 g2 g3 g4 g5 g6
      simp at *
      grind
    obtain ⟨q1, q2, q3, q4⟩ := q1
    refine hA.loopI (fun n st => ∃ i zz : Int, 0 ≤ i ∧ zz = s.length ∧ n + i = zz ∧ (∀ j : Nat, j < i → (isLet (chAt s j) || (isDig (chAt s j) || decide (chAt s j = 95))) = true) ∧ st = ⟨[(24, .int i), (23, .int zz), (2, .bool false), (0, .str s)], []⟩) s.length _
      (Weak.keep (env' := [(24, .int 0), (23, .int z), (2, .bool false), (0, .str s)]) ⟨rfl, rfl, rfl, rfl, trivial⟩) ⟨0, z, by omega, by omega, by omega, fun j hj => by omega, rfl⟩ ?_
    rintro n st K ⟨i, zz, h0, hz, h1, h2, rfl⟩ hK
    by_cases hin : i < zz
    · obtain ⟨cN, hcN⟩ : ∃ cN, cN = (s.getD i.toNat 0).toNat := ⟨_, rfl⟩
      have hch : chAt s i.toNat = (cN : Int) := by rw [chAt, hcN]
      have f90 := ok166 (cN : Int)
      have f92 := ok168 (cN : Int)
      have k5 := g5 i.toNat (by omega)
      rw [hch] at k5
      have k6 : (isLet (cN : Int) || (isDig (cN : Int) || decide ((cN : Int) = 95))) = true → ∀ s1, Weak (hpF []) s1 ⟨[(24, .int (i + 1)), (23, .int zz), (2, .bool false), (0, .str s)], []⟩ → K s1 := fun e s1 hw => by
        refine hK s1 (n - 1) _ (by omega) hw ⟨i + 1, zz, by omega, hz, by omega, fun j hj => ?_, rfl⟩
        by_cases hji : (j : Int) < i
        · exact h2 j hji
        · have : j = i.toNat := by omega
          rw [this, hch]; exact e
      obtain ⟨bl, hbl⟩ : ∃ b, b = isLet (cN : Int) := ⟨_, rfl⟩
      obtain ⟨bd, hbd⟩ : ∃ b, b = isDig (cN : Int) := ⟨_, rfl⟩
      rw [← hbl] at f90 k5 k6
      rw [← hbd] at f92 k5 k6
      clear hK h2 hbl hbd hch g1 g2 g3 g4 g5 g6 e90 e91 hvb q3 q4
      cbv
      repeat' first | with_reducible rfl | with_reducible refine And.intro ?_ ?_ | ((with_reducible intro hcc); first | (cases hcc; done) | skip) | ((with_reducible first | show goC _ _ _ _ _ _ _ _ | show goOps _ _ _ _ _ | show goD _ _ _ _ _ _); cbv) | ((with_reducible show okWr _ _ = _); rfl) | ((with_reducible first | refine callK_f hA hP f90 ?_ ?_ ?_ | refine callK_f hA hP f92 ?_ ?_ ?_); exact rfl; exact rfl; cbv) | ((with_reducible refine hA.six _ _ _ fun z6 c hz6 hc hc2 => ?_); (have e6 : cN = c := (by rw [hc, hcN])); subst e6; cbv) | ((with_reducible first | refine hA.fin_pl _ _ _ ?_ | refine hA.slen _ _ _ _ _ fun z hz hb => ?_ | refine hA.six _ _ _ fun z6 c hz6 hc hc2 => ?_ | refine hA.gb0 true _ ?_ | refine hA.gb0 false _ ?_ | refine hA.gb _ _ fun vb hvb => ?_); cbv) | ((with_reducible first | refine hA.sapp _ _ _ ⟨?_, fun sl hsl => ?_⟩); rotate_left; cbv) | (simp only [hA.lits]; cbv)
      all_goals try simp only [hA.ar, inR, n_cast, Int.ofNat_eq_natCast, Option.getD_some, Option.getD_none] at *
      all_goals first
        | omega
        | (refine k6 ?_ _ (Weak.keep ⟨rfl, rfl, rfl, rfl, trivial⟩); clear k6 k5 hcN hc; simp at *; grind; done)
        | (rw [k5 (by clear k6 k5 hcN; grind) (by clear k6 k5 hcN; grind) (by clear k6 k5 hcN; grind)]; done)
        | (clear k6 k5 hcN; simp at *; omega)
        | (clear k6 k5 hcN; grind; done)
        | (trace_state; fail)
    · have hr2 : r = true := g6 (by omega) (by omega) q3 q4 fun j hj => h2 j (by omega)
      clear hK h2 g1 g2 g3 g4 g5 g6
      cbv
      repeat' first | with_reducible rfl | with_reducible refine And.intro ?_ ?_ | ((with_reducible intro hcc); first | (cases hcc; done) | skip) | ((with_reducible first | show goC _ _ _ _ _ _ _ _ | show goOps _ _ _ _ _ | show goD _ _ _ _ _ _); cbv) | ((with_reducible show okWr _ _ = _); rfl) | (exfalso; simp only [hA.lt, hA.sub, decide_eq_true_eq, decide_eq_false_iff_not, n_cast] at *; omega) | ((with_reducible first | refine hA.fin_pl _ _ _ ?_ | refine hA.slen _ _ _ _ _ fun z hz hb => ?_ | refine hA.six _ _ _ fun z6 c hz6 hc hc2 => ?_ | refine hA.gb0 true _ ?_ | refine hA.gb0 false _ ?_ | refine hA.gb _ _ fun vb hvb => ?_); cbv) | ((with_reducible first | refine hA.sapp _ _ _ ⟨?_, fun sl hsl => ?_⟩); rotate_left; cbv) | (simp only [hA.lits]; cbv)
      all_goals try simp only [hA.ar, inR, n_cast, Int.ofNat_eq_natCast, Option.getD_some, Option.getD_none] at *
      all_goals first
        | (rw [hr2]; done)
        | omega
        | (trace_state; fail))
end Go.Proofs.Ytfplalbognalkaa.Ab
/- What plans share. -/
namespace Go.Proofs.Ytfplalbognalkaa.Ab
open Go
theorem gg1 : ∀ b : Bool, (match (match b with | true => false | false => true) with | true => decide (b = false) = true | false => True) := fun b => by cases b <;> simp
theorem gg2 : ∀ b : Bool, (match b with | true => decide (b = true) = true | false => True) := fun b => by cases b <;> simp
theorem gg3 : ∀ b : Bool, (match decide (b = true) with | true => True | false => True) := fun b => by cases b <;> simp
theorem gg4 : ∀ b : Bool, (match decide (b = false) with | true => True | false => True) := fun b => by cases b <;> simp
theorem gg5 : ∀ b : Bool, (match b with | true => True | false => True) := fun b => by cases b <;> simp
def colsOf (ts : List Tb) (t : Int) : Int := (ts.getD t.toNat ([], 0, [])).2.1
theorem ors_at {l : List (List (Int × Int))} {es : List (List E)} (he : es = l.map orr) {n : Int} (h : 0 ≤ n ∧ n < es.length) : ∃ p, es.getD n.toNat [] = orr p ∧ l[n.toNat]? = some p := row_at he h
theorem gg6 : ∀ a b : Bool, (match (match decide (a = true) with | false => false | true => match b with | true => false | false => true) with | true => (match decide (a = true) with | false => false | true => decide (b = false)) = true | false => True) := fun a b => by cases a <;> cases b <;> simp
theorem all_drop {α : Type} {p : α → Bool} {l : List α} (h : ∀ (i : Nat) (a : α), l[i]? = some a → p a = true) : l.all p = true := by
  rw [List.all_eq_true]
  intro a ha
  obtain ⟨i, hi⟩ := List.getElem?_of_mem ha
  exact h i a hi
theorem fl0 {α : Type} {ks : List α} {f : α → List E} {x : List (List E)} (h : x = ks.map f) : decide ((x.length : Int) = 0) = decide (ks = []) := by
  subst h; cases ks with
  | nil => rfl
  | cons a r => simp; omega
theorem ibox_side {args : RF → List D} {i : Int} {d : D} (ha : ∀ t, args t = rens t (args id)) (hl : lts 1 (args id) = true) (hd : ∀ t, d = d.ren t) : Side args (fun _ => [.box [.int i]]) (fun _ => d) (fun _ => [.box [.int i]]) :=
  ⟨ha, hl, fun t => rfl, by intro o ho; simp at ho; subst ho; rfl, hd, fun t => rfl, by simp⟩
theorem ibox_fin {A : Ar} (hA : A.Ok) {i : Int} {l' : List O} {d' d : D} (h0 : hpF l' 0 = .box [.int i]) (h1 : d = d') (hd : ∀ t, d = d.ren t) (hl : ∀ m, d.lt m = true) : A.finv [.box [.int i]] l' d' [.box [.int i]] d :=
  hA.finv _ _ _ _ _ (FinV.ren [0] (fun _ => [.box [.int i]]) (fun _ => d) rfl (.inl h1) ⟨h0, trivial⟩ hd (hl _) (fun t => rfl) (by intro o ho; simp at ho; subst ho; rfl))
def fstG {α : Type} (q : α → Bool) : List α → Int → Int
  | [], _ => -1
  | k :: r, i => if q k then i else fstG q r (i + 1)
theorem fstG_any {α : Type} (q : α → Bool) : ∀ (l : List α) (i : Int), 0 ≤ i → decide (0 ≤ fstG q l i) = l.any q
  | [], i, _ => rfl
  | k :: r, i, h => by
    simp only [fstG, List.any_cons]
    by_cases hq : q k = true
    · simp [hq, h]
    · simp only [hq, Bool.false_eq_true, if_false, Bool.false_or]
      exact fstG_any q r (i + 1) (by omega)
end Go.Proofs.Ytfplalbognalkaa.Ab
/- Tables: valid, by the specification. -/
namespace Go.Proofs.Ytfplalbognalkaa.Ab
open Go
def fidxN : List Tb → List UInt8 → Int → Int
  | [], _, _ => -1
  | t :: r, n, k => if t.1 = n then k else fidxN r n (k + 1)
def fidx (ts : List Tb) (n : List UInt8) : Int := fidxN ts n 0
theorem fidx_at : ∀ (l : List Tb) (m : Nat) (t : Tb) (k : Int), l[m]? = some t → k ≤ fidxN l t.1 k ∧ (fidxN l t.1 k = k + m ↔ ∀ j t', j < m → l[j]? = some t' → t'.1 ≠ t.1)
  | [], m, t, k, h => by simp at h
  | a :: l, 0, t, k, h => by
    simp at h; subst h
    simp [fidxN]
  | a :: l, m + 1, t, k, h => by
    obtain ⟨h1, h2⟩ := fidx_at l m t (k + 1) (by simpa using h)
    by_cases e : a.1 = t.1
    · have e2 : fidxN (a :: l) t.1 k = k := if_pos e
      rw [e2]
      refine ⟨Int.le_refl _, ⟨fun q => by omega, fun q => absurd e (q 0 a (by omega) rfl)⟩⟩
    · have e2 : fidxN (a :: l) t.1 k = fidxN l t.1 (k + 1) := if_neg e
      rw [e2]
      refine ⟨by omega, ?_⟩
      rw [show k + ((m + 1 : Nat) : Int) = k + 1 + m by omega, h2]
      constructor
      · intro q j t' hj ht
        cases j with
        | zero => simp at ht; subst ht; exact e
        | succ j => exact q j t' (by omega) (by simpa using ht)
      · intro q j t' hj ht
        exact q (j + 1) t' (by omega) (by simpa using ht)
def good (ts : List Tb) (i : Nat) (t : Tb) : Bool := nameB t.1 && (decide (1 ≤ t.2.1 ∧ t.2.1 ≤ 16) && (decide (fidx ts t.1 = i) && t.2.2.all fun r => decide ((r.length : Int) = t.2.1)))
def rlen (t : Tb) : Int := t.2.2.length
theorem rlen_nonneg (t : Tb) : 0 ≤ rlen t := by unfold rlen; omega
def dbOk (ts : List Tb) : Bool := decide (ts.length ≤ 50) && (((List.range ts.length).all fun i => good ts i (ts.getD i ([], 0, []))) && decide (sumC rlen ts ≤ 1000))
theorem dbF (ts : List Tb) : (50 < ts.length → dbOk ts = false) ∧ (∀ i t, ts[i]? = some t → good ts i t = false → dbOk ts = false) ∧
    (ts.length ≤ 50 → (∀ i t, ts[i]? = some t → good ts i t = true) → dbOk ts = decide (sumC rlen ts ≤ 1000)) := by
  refine ⟨fun h => by simp [dbOk, show ¬ ts.length ≤ 50 by omega], fun i t h e => ?_, fun h q => ?_⟩
  · have hi := (List.getElem?_eq_some_iff.1 h).1
    have : ((List.range ts.length).all fun i => good ts i (ts.getD i ([], 0, []))) = false := by
      rw [List.all_eq_false]
      exact ⟨i, by simp [hi], by simp [List.getD, h, e]⟩
    rw [dbOk, this]; simp
  · have : ((List.range ts.length).all fun i => good ts i (ts.getD i ([], 0, []))) = true := by
      rw [List.all_eq_true]
      intro i hi
      simp at hi
      exact q i _ (by simp [List.getD, hi])
    rw [dbOk, this, decide_eq_true h]; simp
theorem sz_rows (ts : List Tb) : sumC rlen ts ≤ cTS ts := by
  have : ∀ l : List Tb, sumC rlen l ≤ sumC cT l := fun l => by
    induction l with
    | nil => exact Int.le_refl _
    | cons t l ih =>
      simp only [sumC]
      have := sumC_nonneg cV_nonneg t.2.2
      have : rlen t ≤ cT t := by unfold rlen cT cSS; omega
      omega
  have := this ts
  unfold cTS; omega
theorem sz_row {ts : List Tb} {t : Tb} (h : t ∈ ts) : cT t ≤ cTS ts := by have := sumC_mem cT_nonneg h; unfold cTS; omega
set_option maxRecDepth 100000 in
theorem ok128 (ts : List Tb) (x : List (List E)) (hx : x = ts.map tbr) (n : List UInt8) : Plain Try.prog 128 [.agg [.e (.sl x)], .str n] (.int (fidx ts n)) := okOf mixed p128 fun A P hA hP => (by
  have hl : x.length = ts.length := by rw [hx]; simp
  obtain ⟨r, hr⟩ : ∃ r, r = fidx ts n := ⟨_, rfl⟩
  rw [← hr]
  cbv
  repeat' first | with_reducible rfl | with_reducible refine And.intro ?_ ?_ | ((with_reducible intro hcc); first | (cases hcc; done) | skip) | ((with_reducible first | show goC _ _ _ _ _ _ _ _ | show goOps _ _ _ _ _ | show goD _ _ _ _ _ _); cbv) | ((with_reducible show okWr _ _ = _); rfl) | ((with_reducible first | refine hA.fin_pl _ _ _ ?_ | refine hA.len _ _ _ _ _ fun z hz hb => ?_ | refine hA.off _ _ _ _ fun b hb => ?_ | refine hA.plus _ _ _ fun b hb => ?_); cbv) | ((with_reducible first | refine hA.sapp _ _ _ ⟨?_, fun sl hsl => ?_⟩); rotate_left; cbv) | (simp only [hA.lits]; cbv)
  all_goals try simp only [hA.ar, inR, n_cast, Int.ofNat_eq_natCast, Option.getD_some, Option.getD_none] at *
  refine hA.loopI (fun m s => ∃ i : Int, 0 ≤ i ∧ m + i = x.length ∧ r = fidxN (ts.drop i.toNat) n i ∧ s = ⟨[(5, .int i), (1, .str n), (2, .ref 0 0), (4, .int 0)], [.box [.e (.sl x)]]⟩) x.length _
    (Weak.keep (env' := [(5, .int 0), (1, .str n), (2, .ref 0 0), (4, .int 0)]) ⟨rfl, rfl, rfl, rfl, trivial⟩) ⟨0, by omega, by omega, by simpa [fidx] using hr, rfl⟩ ?_
  rintro m s K ⟨i, h0, h1, h2, rfl⟩ hK
  by_cases hin : (0 : Int) ≤ i ∧ i < x.length
  · obtain ⟨⟨n1, c1, rs1⟩, e1, q1⟩ := row_at hx hin
    obtain ⟨x1, hx1⟩ : ∃ y, y = rs1.map rsr := ⟨_, rfl⟩
    have e1 : x.getD i.toNat [] = [E.str n1, E.int c1, E.sl x1] := e1.trans (by rw [hx1])
    have h3 : r = if n1 = n then i else fidxN (ts.drop (i.toNat + 1)) n (i + 1) := by
      obtain ⟨a, b⟩ := List.getElem?_eq_some_iff.1 q1
      rw [h2, List.drop_eq_getElem_cons a, b]; rfl
    have e8 : (i + 1).toNat = i.toNat + 1 := by omega
    clear h2 hr
    cbv
    repeat' first | with_reducible rfl | with_reducible refine And.intro ?_ ?_ | ((with_reducible intro hcc); first | (cases hcc; done) | skip) | ((with_reducible first | show goC _ _ _ _ _ _ _ _ | show goOps _ _ _ _ _ | show goD _ _ _ _ _ _); cbv) | ((with_reducible show okWr _ _ = _); rfl) | ((with_reducible refine hA.row x _ _ ⟨hin, fun row hrow => ?_⟩); rw [e1] at hrow; subst hrow; cbv) | ((with_reducible first | refine hA.fin_pl _ _ _ ?_ | refine hA.len _ _ _ _ _ fun z hz hb => ?_ | refine hA.off _ _ _ _ fun b hb => ?_ | refine hA.plus _ _ _ fun b hb => ?_); cbv) | ((with_reducible first | refine hA.sapp _ _ _ ⟨?_, fun sl hsl => ?_⟩); rotate_left; cbv) | (simp only [hA.lits]; cbv)
    all_goals try simp only [hA.ar, inR, n_cast, Int.ofNat_eq_natCast, Option.getD_some, Option.getD_none] at *
    all_goals first
      | omega
      | (rw [h3, if_pos (by simpa using (by assumption : decide (n1 = n) = true))]; done)
      | (refine hK _ (m - 1) _ (by omega) (Weak.keep (env' := [(5, .int (i + 1)), (1, .str n), (2, .ref 0 0), (4, .int 0)]) ⟨rfl, rfl, rfl, rfl, trivial⟩) ⟨i + 1, by omega, by omega, ?_, rfl⟩
         rw [h3, if_neg (by simpa using (by assumption : decide (n1 = n) = false)), e8])
      | (clear hK h3; simp at *; omega)
      | (trace_state; fail)
  · have hd : ts.drop i.toNat = [] := by rw [List.drop_eq_nil_iff]; omega
    rw [hd] at h2
    have h3 : r = -1 := h2
    clear hK h2 hr
    cbv
    repeat' first | with_reducible rfl | with_reducible refine And.intro ?_ ?_ | ((with_reducible intro hcc); first | (cases hcc; done) | skip) | ((with_reducible first | show goC _ _ _ _ _ _ _ _ | show goOps _ _ _ _ _ | show goD _ _ _ _ _ _); cbv) | ((with_reducible show okWr _ _ = _); rfl) | (exfalso; simp only [hA.lt, hA.sub, decide_eq_true_eq, decide_eq_false_iff_not, n_cast] at *; omega) | ((with_reducible first | refine hA.fin_pl _ _ _ ?_ | refine hA.len _ _ _ _ _ fun z hz hb => ?_ | refine hA.off _ _ _ _ fun b hb => ?_ | refine hA.plus _ _ _ fun b hb => ?_); cbv) | ((with_reducible first | refine hA.sapp _ _ _ ⟨?_, fun sl hsl => ?_⟩); rotate_left; cbv) | (simp only [hA.lits]; cbv)
    all_goals try simp only [hA.ar, inR, n_cast, Int.ofNat_eq_natCast, Option.getD_some, Option.getD_none] at *
    all_goals first
      | (rw [h3]; done)
      | omega
      | (trace_state; fail))
theorem good_iff {ts : List Tb} {i : Nat} {n : List UInt8} {c : Int} {rs : List (List (Bool × Int))} : good ts i (n, c, rs) = true ↔ nameB n = true ∧ (1 ≤ c ∧ c ≤ 16) ∧ fidx ts n = i ∧ ∀ r ∈ rs, (r.length : Int) = c := by
  simp [good]
set_option maxRecDepth 100000 in
set_option maxHeartbeats 2000000 in
theorem ok73 (ts : List Tb) (x : List (List E)) (hx : x = ts.map tbr) (hsz : cTS ts ≤ 1048576) : Plain Try.prog 73 [.agg [.e (.sl x)]] (.bool (dbOk ts)) := okOf mixed p73 fun A P hA hP => (by
  have hl : x.length = ts.length := by rw [hx]; simp
  obtain ⟨d1, d2, d3⟩ := dbF ts
  obtain ⟨r, hr⟩ : ∃ r, r = dbOk ts := ⟨_, rfl⟩
  rw [← hr] at d1 d2 d3 ⊢
  clear hr
  cbv
  repeat' first | with_reducible rfl | with_reducible refine And.intro ?_ ?_ | ((with_reducible intro hcc); first | (cases hcc; done) | skip) | ((with_reducible first | show goC _ _ _ _ _ _ _ _ | show goOps _ _ _ _ _ | show goD _ _ _ _ _ _); cbv) | ((with_reducible show okWr _ _ = _); rfl) | ((with_reducible first | refine hA.fin_pl _ _ _ ?_ | refine hA.len _ _ _ _ _ fun z hz hb => ?_ | refine hA.off _ _ _ _ fun b hb => ?_ | refine hA.plus _ _ _ fun b hb => ?_ | refine hA.gb0 true _ ?_ | refine hA.gb0 false _ ?_ | refine hA.gb _ _ fun vb hvb => ?_); cbv) | ((with_reducible first | refine hA.st _ _ _ _ _ ⟨?_, fun ds hds => ?_⟩ | refine hA.sapp _ _ _ ⟨?_, fun sl hsl => ?_⟩); rotate_left; cbv) | (simp only [hA.lits]; cbv)
  all_goals try simp only [hA.ar, inR, n_cast, Int.ofNat_eq_natCast, Option.getD_some, Option.getD_none] at *
  all_goals try (first | (rw [d1 (by simp at *; omega)]; done))
  have h50 : ts.length ≤ 50 := by clear d1 d2 d3; simp at *; omega
  have hrn := sz_rows ts
  refine hA.loopI (fun m s => ∃ i rows : Int, 0 ≤ i ∧ m + i = x.length ∧ 0 ≤ rows ∧ rows + sumC rlen (ts.drop i.toNat) = sumC rlen ts ∧ (∀ (j : Nat) t, (j : Int) < i → ts[j]? = some t → good ts j t = true) ∧
      s = ⟨[(4, .int i), (3, .int rows), (2, .bool false), (1, .ref 0 0)], [.box [.e (.sl x)]]⟩) x.length _
    (Weak.keep (env' := [(4, .int 0), (3, .int 0), (2, .bool false), (1, .ref 0 0)]) ⟨rfl, rfl, rfl, rfl, trivial⟩) ⟨0, 0, by omega, by omega, by omega, by simp, fun j t hj => by omega, rfl⟩ ?_
  rintro m s K ⟨i, rows, h0, h1, h2, h3, h4, rfl⟩ hK
  by_cases hin : (0 : Int) ≤ i ∧ i < x.length
  · obtain ⟨⟨n1, c1, rs1⟩, e1, q1⟩ := row_at hx hin
    obtain ⟨x1, hx1⟩ : ∃ y, y = rs1.map rsr := ⟨_, rfl⟩
    have e1 : x.getD i.toNat [] = [E.str n1, E.int c1, E.sl x1] := e1.trans (by rw [hx1])
    have hl1 : x1.length = rs1.length := by rw [hx1]; simp
    rw [sumC_drop q1] at h3
    have hS := sumC_nonneg rlen_nonneg (ts.drop (i.toNat + 1))
    have hrl : rlen (n1, c1, rs1) = x1.length := by rw [hl1]; rfl
    have hd := d2 i.toNat _ q1
    have gi := good_iff (ts := ts) (i := i.toNat) (n := n1) (c := c1) (rs := rs1)
    obtain ⟨g, hg⟩ : ∃ g, g = good ts i.toNat (n1, c1, rs1) := ⟨_, rfl⟩
    rw [← hg] at hd gi
    obtain ⟨nb, hnb⟩ : ∃ b, b = nameB n1 := ⟨_, rfl⟩
    obtain ⟨fi, hfi⟩ : ∃ f, f = fidx ts n1 := ⟨_, rfl⟩
    rw [← hnb, ← hfi] at gi
    have h66 := ok115 n1
    have h67 := ok128 ts x hx n1
    rw [← hnb] at h66
    rw [← hfi] at h67
    have e8 : (i + 1).toNat = i.toNat + 1 := by omega
    have hK2 : (g = true) → ∀ w : Int, w = rows + x1.length → ∀ s1, Weak (hpF []) s1 ⟨[(4, .int (i + 1)), (3, .int w), (2, .bool false), (1, .ref 0 0)], [.box [.e (.sl x)]]⟩ → K s1 := fun e w hww s1 hw => by
      refine hK s1 (m - 1) _ (by omega) hw ⟨i + 1, _, by omega, by omega, by omega, by rw [e8]; omega, fun j t hj ht => ?_, rfl⟩
      by_cases hji : (j : Int) < i
      · exact h4 j t hji ht
      · have : j = i.toNat := by omega
        subst this
        rw [q1] at ht
        cases ht
        rw [← hg]; exact e
    clear hK h4 hnb hfi hg d1 d2 d3
    cbv
    repeat' first | with_reducible rfl | with_reducible refine And.intro ?_ ?_ | ((with_reducible intro hcc); first | (cases hcc; done) | skip) | ((with_reducible first | show goC _ _ _ _ _ _ _ _ | show goOps _ _ _ _ _ | show goD _ _ _ _ _ _); cbv) | ((with_reducible show okWr _ _ = _); rfl) | ((with_reducible first | refine callK_f hA hP h66 ?_ ?_ ?_ | refine callK_f hA hP h67 ?_ ?_ ?_); exact rfl; exact rfl; cbv) | ((with_reducible refine hA.row x _ _ ⟨hin, fun row hrow => ?_⟩); rw [e1] at hrow; subst hrow; cbv) | ((with_reducible first | refine hA.fin_pl _ _ _ ?_ | refine hA.len _ _ _ _ _ fun z hz hb => ?_ | refine hA.off _ _ _ _ fun b hb => ?_ | refine hA.plus _ _ _ fun b hb => ?_ | refine hA.gb0 true _ ?_ | refine hA.gb0 false _ ?_ | refine hA.gb _ _ fun vb hvb => ?_); cbv) | ((with_reducible first | refine hA.st _ _ _ _ _ ⟨?_, fun ds hds => ?_⟩ | refine hA.sapp _ _ _ ⟨?_, fun sl hsl => ?_⟩); rotate_left; cbv) | (simp only [hA.lits]; cbv)
    all_goals try simp only [hA.ar, inR, n_cast, Int.ofNat_eq_natCast, Option.getD_some, Option.getD_none] at *
    all_goals try (first
      | omega
      | (clear hK2 hd gi h66 h67; simp at *; omega)
      | (clear hK2 hd gi h66 h67; grind; done))
    · have hf : g = false := by
        rw [Bool.eq_false_iff]
        intro q
        obtain ⟨a1, a2, a3, _⟩ := gi.1 q
        clear hK2 hd gi h66 h67
        simp at *
        grind
      rw [hd hf]
    · have hpre : g = true ↔ ∀ r ∈ rs1, (r.length : Int) = c1 := by
        rw [gi]
        have : nb = true ∧ (1 ≤ c1 ∧ c1 ≤ 16) ∧ fi = ↑i.toNat := by
          clear hK2 hd gi h66 h67
          simp at *
          grind
        exact ⟨fun q => q.2.2.2, fun q => ⟨this.1, this.2.1, this.2.2, q⟩⟩
      clear gi h66 h67
      refine hA.loopI (fun mm s => ∃ jj : Int, 0 ≤ jj ∧ mm + jj = x1.length ∧ (∀ (k : Nat) r', (k : Int) < jj → rs1[k]? = some r' → (r'.length : Int) = c1) ∧
          s = ⟨[(6, .int jj), (5, .ref 1 0), (4, .int i), (3, .int rows), (2, .bool false), (1, .ref 0 0)], [.box [.e (.sl x)], .box [.str n1, .int c1, .e (.sl x1)]]⟩) x1.length _
        (Weak.keep (env' := [(6, .int 0), (5, .ref 1 0), (4, .int i), (3, .int rows), (2, .bool false), (1, .ref 0 0)]) ⟨rfl, rfl, rfl, rfl, rfl, rfl, trivial⟩) ⟨0, by omega, by omega, fun k r' hk => by omega, rfl⟩ ?_
      rintro mm s K3 ⟨jj, j0, j1, j2, rfl⟩ hK3
      by_cases hjn : (0 : Int) ≤ jj ∧ jj < x1.length
      · obtain ⟨r1, e2, q2⟩ := row_at hx1 hjn
        obtain ⟨y1, hy1⟩ : ∃ y, y = r1.map vr := ⟨_, rfl⟩
        have e2 : x1.getD jj.toNat [] = [E.sl y1] := e2.trans (by rw [hy1])
        have hly : y1.length = r1.length := by rw [hy1]; simp
        have k1 : ¬ (r1.length : Int) = c1 → r = false := fun q => hd (by
          rw [Bool.eq_false_iff]
          intro q'
          exact q (hpre.1 q' r1 (List.mem_of_getElem? q2)))
        have k2 : (r1.length : Int) = c1 → ∀ s1, Weak (hpF []) s1 ⟨[(6, .int (jj + 1)), (5, .ref 1 0), (4, .int i), (3, .int rows), (2, .bool false), (1, .ref 0 0)], [.box [.e (.sl x)], .box [.str n1, .int c1, .e (.sl x1)]]⟩ → K3 s1 := fun q s1 hw => by
          refine hK3 s1 (mm - 1) _ (by omega) hw ⟨jj + 1, by omega, by omega, fun k r' hk hr' => ?_, rfl⟩
          by_cases hkj : (k : Int) < jj
          · exact j2 k r' hkj hr'
          · have : k = jj.toNat := by omega
            subst this
            rw [q2] at hr'
            cases hr'
            exact q
        clear hK3 hK2 hd hpre j2
        cbv
        repeat' first | with_reducible rfl | with_reducible refine And.intro ?_ ?_ | ((with_reducible intro hcc); first | (cases hcc; done) | skip) | ((with_reducible first | show goC _ _ _ _ _ _ _ _ | show goOps _ _ _ _ _ | show goD _ _ _ _ _ _); cbv) | ((with_reducible show okWr _ _ = _); rfl) | ((with_reducible refine hA.row x1 _ _ ⟨hjn, fun row hrow => ?_⟩); rw [e2] at hrow; subst hrow; cbv) | ((with_reducible first | refine hA.fin_pl _ _ _ ?_ | refine hA.len _ _ _ _ _ fun z hz hb => ?_ | refine hA.off _ _ _ _ fun b hb => ?_ | refine hA.plus _ _ _ fun b hb => ?_ | refine hA.gb0 true _ ?_ | refine hA.gb0 false _ ?_ | refine hA.gb _ _ fun vb hvb => ?_); cbv) | ((with_reducible first | refine hA.st _ _ _ _ _ ⟨?_, fun ds hds => ?_⟩ | refine hA.sapp _ _ _ ⟨?_, fun sl hsl => ?_⟩); rotate_left; cbv) | (simp only [hA.lits]; cbv)
        all_goals try simp only [hA.ar, inR, n_cast, Int.ofNat_eq_natCast, Option.getD_some, Option.getD_none] at *
        all_goals first
          | omega
          | (rw [k1 (by clear k1 k2 hx hx1 e1 e2 hy1; grind)]; done)
          | (exact k2 (by clear k1 k2 hx hx1 e1 e2 hy1; grind) _ (Weak.keep ⟨rfl, rfl, rfl, rfl, rfl, rfl, trivial⟩))
          | (clear k1 k2; simp at *; omega)
          | (clear k1 k2; grind; done)
          | (trace_state; fail)
      · have hgt : g = true := hpre.2 fun r' hr' => by
          obtain ⟨k, hk, e⟩ := List.getElem_of_mem hr'
          exact j2 k r' (by omega) (by rw [← e]; simp [hk])
        have hK4 := hK2 hgt
        clear hK3 hK2 hd hpre j2
        cbv
        repeat' first | with_reducible rfl | with_reducible refine And.intro ?_ ?_ | ((with_reducible intro hcc); first | (cases hcc; done) | skip) | ((with_reducible first | show goC _ _ _ _ _ _ _ _ | show goOps _ _ _ _ _ | show goD _ _ _ _ _ _); cbv) | ((with_reducible show okWr _ _ = _); rfl) | (exfalso; simp only [hA.lt, hA.sub, decide_eq_true_eq, decide_eq_false_iff_not, n_cast] at *; omega) | ((with_reducible first | refine hA.fin_pl _ _ _ ?_ | refine hA.len _ _ _ _ _ fun z hz hb => ?_ | refine hA.off _ _ _ _ fun b hb => ?_ | refine hA.plus _ _ _ fun b hb => ?_ | refine hA.gb0 true _ ?_ | refine hA.gb0 false _ ?_ | refine hA.gb _ _ fun vb hvb => ?_); cbv) | ((with_reducible first | refine hA.st _ _ _ _ _ ⟨?_, fun ds hds => ?_⟩ | refine hA.sapp _ _ _ ⟨?_, fun sl hsl => ?_⟩); rotate_left; cbv) | (simp only [hA.lits]; cbv)
        all_goals try simp only [hA.ar, inR, n_cast, Int.ofNat_eq_natCast, Option.getD_some, Option.getD_none] at *
        all_goals first
          | omega
          | (refine hK4 _ ?_ _ (Weak.ren (l0 := []) [0] (fun t => [(4, .int (i + 1)), (3, .int _), (2, .bool false), (1, .ref (t 0) 0)]) (fun t => [.box [.e (.sl x)]]) rfl ⟨.inl rfl, .inl rfl, .inl rfl, .inl rfl, trivial⟩ ⟨rfl, trivial⟩ ⟨fun t => rfl, rfl, fun t => rfl, by simp [O.lt, lts, D.lt]⟩)
             omega)
          | (clear hK4; simp at *; omega)
          | (trace_state; fail)
  · have hd0 : ts.drop i.toNat = [] := by rw [List.drop_eq_nil_iff]; omega
    rw [hd0] at h3
    have h3 : rows + 0 = sumC rlen ts := h3
    have hr3 := d3 h50 fun j t ht => h4 j t (by have := (List.getElem?_eq_some_iff.1 ht).1; omega) ht
    clear hK h4 d1 d2 d3
    cbv
    repeat' first | with_reducible rfl | with_reducible refine And.intro ?_ ?_ | ((with_reducible intro hcc); first | (cases hcc; done) | skip) | ((with_reducible first | show goC _ _ _ _ _ _ _ _ | show goOps _ _ _ _ _ | show goD _ _ _ _ _ _); cbv) | ((with_reducible show okWr _ _ = _); rfl) | (exfalso; simp only [hA.lt, hA.sub, decide_eq_true_eq, decide_eq_false_iff_not, n_cast] at *; omega) | ((with_reducible first | refine hA.fin_pl _ _ _ ?_ | refine hA.len _ _ _ _ _ fun z hz hb => ?_ | refine hA.off _ _ _ _ fun b hb => ?_ | refine hA.plus _ _ _ fun b hb => ?_ | refine hA.gb0 true _ ?_ | refine hA.gb0 false _ ?_ | refine hA.gb _ _ fun vb hvb => ?_); cbv) | ((with_reducible first | refine hA.st _ _ _ _ _ ⟨?_, fun ds hds => ?_⟩ | refine hA.sapp _ _ _ ⟨?_, fun sl hsl => ?_⟩); rotate_left; cbv) | (simp only [hA.lits]; cbv)
    all_goals try simp only [hA.ar, inR, n_cast, Int.ofNat_eq_natCast, Option.getD_some, Option.getD_none] at *
    all_goals first
      | (rw [hr3, ← h3, Int.add_zero]; done)
      | omega
      | (trace_state; fail))
end Go.Proofs.Ytfplalbognalkaa.Ab
/- Tables: valid, by the program. -/
namespace Go.Proofs.Ytfplalbognalkaa.Ab
open Go
theorem mlook_mset (l : List (List UInt8 × E)) (k : List UInt8) (v : E) (n : List UInt8) : mlook (mset l k v) n = if k = n then some v else mlook l n := by
  induction l with
  | nil => rfl
  | cons p l ih =>
    simp only [mset]
    by_cases h : p.1 = k
    · rw [if_pos h]
      simp only [mlook]
      by_cases h2 : k = n
      · rw [if_pos h2, if_pos h2]
      · rw [if_neg h2, if_neg h2, if_neg (by rw [h]; exact h2)]
    · rw [if_neg h]
      simp only [mlook]
      by_cases h3 : p.1 = n
      · rw [if_pos h3, if_pos h3, if_neg (fun e => h (h3.trans e.symm))]
      · rw [if_neg h3, if_neg h3, ih]
set_option maxRecDepth 100000 in
set_option maxHeartbeats 2000000 in
theorem ok135 (ts : List Tb) (x : List (List E)) (hx : x = ts.map tbr) (hsz : cTS ts ≤ 1048576) : Plain Try.prog 135 [.agg [.e (.sl x)]] (.bool (dbOk ts)) := okOf mixed p135 fun A P hA hP => (by
  have hl : x.length = ts.length := by rw [hx]; simp
  obtain ⟨d1, d2, d3⟩ := dbF ts
  obtain ⟨r, hr⟩ : ∃ r, r = dbOk ts := ⟨_, rfl⟩
  rw [← hr] at d1 d2 d3 ⊢
  clear hr
  cbv
  repeat' first | with_reducible rfl | with_reducible refine And.intro ?_ ?_ | ((with_reducible intro hcc); first | (cases hcc; done) | skip) | ((with_reducible first | show goC _ _ _ _ _ _ _ _ | show goOps _ _ _ _ _ | show goD _ _ _ _ _ _); cbv) | ((with_reducible show okWr _ _ = _); rfl) | ((with_reducible first | refine hA.fin_pl _ _ _ ?_ | refine hA.len _ _ _ _ _ fun z hz hb => ?_ | refine hA.off _ _ _ _ fun b hb => ?_ | refine hA.plus _ _ _ fun b hb => ?_ | refine hA.gb0 true _ ?_ | refine hA.gb0 false _ ?_ | refine hA.gb _ _ fun vb hvb => ?_ | refine hA.mset _ _ _ _ fun ml hml => ?_); cbv) | ((with_reducible first | refine hA.st _ _ _ _ _ ⟨?_, fun ds hds => ?_⟩ | refine hA.sapp _ _ _ ⟨?_, fun sl hsl => ?_⟩); rotate_left; cbv) | ((with_reducible refine hA.mget _ _ _ _ ⟨fun mv hmv => ?_, fun hmv => ?_⟩) <;> cbv) | (simp only [hA.lits]; cbv)
  all_goals try simp only [hA.ar, inR, n_cast, Int.ofNat_eq_natCast, Option.getD_some, Option.getD_none] at *
  all_goals try (first | (rw [d1 (by simp at *; omega)]; done))
  have h50 : ts.length ≤ 50 := by clear d1 d2 d3; simp at *; omega
  have hrn := sz_rows ts
  refine hA.loopI (fun m s => ∃ (i rows zz : Int) (ml : List (List UInt8 × E)), 0 ≤ i ∧ zz = x.length ∧ m + i = zz ∧ 0 ≤ rows ∧ rows + sumC rlen (ts.drop i.toNat) = sumC rlen ts ∧ (∀ (j : Nat) t, (j : Int) < i → ts[j]? = some t → good ts j t = true) ∧
      (∀ n, (∃ v, mlook ml n = some v) ↔ ∃ (j : Nat) (t : Tb), (j : Int) < i ∧ ts[j]? = some t ∧ t.1 = n) ∧
      s = ⟨[(19, .int i), (18, .int zz), (17, .e (.sl x)), (4, .int rows), (3, .mp 1), (2, .bool false), (1, .ref 0 0)], [.box [.e (.sl x)], .smap ml]⟩) x.length _
    (Weak.keep (env' := [(19, .int 0), (18, .int z), (17, .e (.sl x)), (4, .int 0), (3, .mp 1), (2, .bool false), (1, .ref 0 0)]) ⟨rfl, rfl, rfl, rfl, rfl, rfl, rfl, trivial⟩)
    ⟨0, 0, z, [], by omega, by omega, by omega, by omega, (by simp), (fun j t hj => by omega), (fun n => ⟨fun ⟨v, hv⟩ => (by simp [mlook] at hv), fun ⟨j, t, hj, _⟩ => (by omega)⟩), rfl⟩ ?_
  rintro m s K ⟨i, rows, zz, ml0, h0, hzz, h1, h2, h3, h4, h5, rfl⟩ hK
  by_cases hin : (0 : Int) ≤ i ∧ i < x.length
  · obtain ⟨⟨n1, c1, rs1⟩, e1, q1⟩ := row_at hx hin
    obtain ⟨x1, hx1⟩ : ∃ y, y = rs1.map rsr := ⟨_, rfl⟩
    have e1 : x.getD i.toNat [] = [E.str n1, E.int c1, E.sl x1] := e1.trans (by rw [hx1])
    have hl1 : x1.length = rs1.length := by rw [hx1]; simp
    rw [sumC_drop q1] at h3
    have hS := sumC_nonneg rlen_nonneg (ts.drop (i.toNat + 1))
    have hrl : rlen (n1, c1, rs1) = x1.length := by rw [hl1]; rfl
    have hd := d2 i.toNat _ q1
    have gi := good_iff (ts := ts) (i := i.toNat) (n := n1) (c := c1) (rs := rs1)
    obtain ⟨g, hg⟩ : ∃ g, g = good ts i.toNat (n1, c1, rs1) := ⟨_, rfl⟩
    rw [← hg] at hd gi
    obtain ⟨nb, hnb⟩ : ∃ b, b = nameB n1 := ⟨_, rfl⟩
    have hfr := (fidx_at ts i.toNat (n1, c1, rs1) 0 q1).2
    rw [Int.zero_add] at hfr
    have hfr : fidx ts n1 = ↑i.toNat ↔ mlook ml0 n1 = none := by
      rw [show fidx ts n1 = fidxN ts n1 0 from rfl, hfr]
      constructor
      · intro q
        cases hm : mlook ml0 n1 with
        | none => rfl
        | some v =>
          obtain ⟨j, t, hj, ht, e⟩ := (h5 n1).1 ⟨v, hm⟩
          exact absurd e (q j t (by omega) ht)
      · intro q j t' hj ht e
        obtain ⟨v, hv⟩ := (h5 n1).2 ⟨j, t', by omega, ht, e⟩
        rw [q] at hv; cases hv
    rw [← hnb, hfr] at gi
    have h66 := ok119 n1
    rw [← hnb] at h66
    have e8 : (i + 1).toNat = i.toNat + 1 := by omega
    have hK2 : (g = true) → ∀ (w : Int) (ml : List (List UInt8 × E)), w = rows + x1.length → ml = mset ml0 n1 (E.int i) → ∀ s1, Weak (hpF []) s1 ⟨[(19, .int (i + 1)), (18, .int zz), (17, .e (.sl x)), (4, .int w), (3, .mp 1), (2, .bool false), (1, .ref 0 0)], [.box [.e (.sl x)], .smap ml]⟩ → K s1 := fun e w ml hww hml s1 hw => by
      refine hK s1 (m - 1) _ (by omega) hw ⟨i + 1, _, zz, ml, by omega, hzz, by omega, by omega, by rw [e8]; omega, fun j t hj ht => ?_, fun n => ?_, rfl⟩
      · by_cases hji : (j : Int) < i
        · exact h4 j t hji ht
        · have : j = i.toNat := by omega
          subst this
          rw [q1] at ht
          cases ht
          rw [← hg]; exact e
      · rw [hml, mlook_mset]
        by_cases hn : n1 = n
        · rw [if_pos hn]
          exact ⟨fun _ => ⟨i.toNat, _, by omega, q1, hn⟩, fun _ => ⟨_, rfl⟩⟩
        · rw [if_neg hn, h5 n]
          constructor
          · rintro ⟨j, t, a, b, c⟩; exact ⟨j, t, by omega, b, c⟩
          · rintro ⟨j, t, a, b, c⟩
            refine ⟨j, t, ?_, b, c⟩
            by_cases hji : (j : Int) < i
            · exact hji
            · have : j = i.toNat := by omega
              subst this
              rw [q1] at b
              cases b
              exact absurd c hn
    clear hK h4 h5 hnb hfr hg d1 d2 d3
    cbv
    repeat' first | with_reducible rfl | with_reducible refine And.intro ?_ ?_ | ((with_reducible intro hcc); first | (cases hcc; done) | skip) | ((with_reducible first | show goC _ _ _ _ _ _ _ _ | show goOps _ _ _ _ _ | show goD _ _ _ _ _ _); cbv) | ((with_reducible show okWr _ _ = _); rfl) | ((with_reducible first | refine callK_f hA hP h66 ?_ ?_ ?_); exact rfl; exact rfl; cbv) | ((with_reducible refine hA.row x _ _ ⟨hin, fun row hrow => ?_⟩); rw [e1] at hrow; subst hrow; cbv) | ((with_reducible first | refine hA.fin_pl _ _ _ ?_ | refine hA.len _ _ _ _ _ fun z hz hb => ?_ | refine hA.off _ _ _ _ fun b hb => ?_ | refine hA.plus _ _ _ fun b hb => ?_ | refine hA.gb0 true _ ?_ | refine hA.gb0 false _ ?_ | refine hA.gb _ _ fun vb hvb => ?_ | refine hA.mset _ _ _ _ fun ml hml => ?_); cbv) | ((with_reducible first | refine hA.st _ _ _ _ _ ⟨?_, fun ds hds => ?_⟩ | refine hA.sapp _ _ _ ⟨?_, fun sl hsl => ?_⟩); rotate_left; cbv) | ((with_reducible refine hA.mget _ _ _ _ ⟨fun mv hmv => ?_, fun hmv => ?_⟩) <;> cbv) | (simp only [hA.lits]; cbv)
    all_goals try simp only [hA.ar, inR, n_cast, Int.ofNat_eq_natCast, Option.getD_some, Option.getD_none] at *
    all_goals try (first
      | omega
      | (clear hK2 hd gi h66; simp at *; omega)
      | (clear hK2 hd gi h66; grind; done))
    all_goals try (
      have hf : g = false := (by
        rw [Bool.eq_false_iff]
        intro q
        obtain ⟨a1, a2, a3, _⟩ := gi.1 q
        clear hK2 hd gi h66
        first
          | (rw [a3] at hmv; cases hmv; done)
          | (grind; done)
          | (simp at *; done)
          | (simp at *; grind; done))
      rw [hd hf]
      done)
    have hpre : g = true ↔ ∀ r ∈ rs1, (r.length : Int) = c1 := by
      rw [gi]
      have : nb = true ∧ (1 ≤ c1 ∧ c1 ≤ 16) := by
        clear hK2 hd gi h66
        simp at *
        grind
      exact ⟨fun q => q.2.2.2, fun q => ⟨this.1, this.2, hmv, q⟩⟩
    clear gi h66
    refine hA.loopI (fun mm s => ∃ jj zj w : Int, 0 ≤ jj ∧ zj = x1.length ∧ mm + jj = zj ∧ w = rows + x1.length ∧ (∀ (k : Nat) r', (k : Int) < jj → rs1[k]? = some r' → (r'.length : Int) = c1) ∧
        s = ⟨[(60, .int jj), (59, .int zj), (58, .e (.sl x1)), (6, .ref 2 0), (19, .int i), (18, .int zz), (17, .e (.sl x)), (4, .int w), (3, .mp 1), (2, .bool false), (1, .ref 0 0)],
          [.box [.e (.sl x)], .smap ml, .box [.str n1, .int c1, .e (.sl x1)]]⟩) x1.length _
      (Weak.keep (env' := [(60, .int 0), (59, .int _), (58, .e (.sl x1)), (6, .ref 2 0), (19, .int i), (18, .int zz), (17, .e (.sl x)), (4, .int (rows + _)), (3, .mp 1), (2, .bool false), (1, .ref 0 0)]) ⟨rfl, rfl, rfl, rfl, rfl, rfl, rfl, rfl, rfl, rfl, rfl, trivial⟩)
      ⟨0, _, _, by omega, ?_, ?_, ?_, (fun k r' hk => by omega), rfl⟩ ?_
    · omega
    · omega
    · omega
    rintro mm s K3 ⟨jj, zj, w, j0, jz, j1, jw, j2, rfl⟩ hK3
    by_cases hjn : (0 : Int) ≤ jj ∧ jj < x1.length
    · obtain ⟨r1, e2, q2⟩ := row_at hx1 hjn
      obtain ⟨y1, hy1⟩ : ∃ y, y = r1.map vr := ⟨_, rfl⟩
      have e2 : x1.getD jj.toNat [] = [E.sl y1] := e2.trans (by rw [hy1])
      have hly : y1.length = r1.length := by rw [hy1]; simp
      have k1 : ¬ (r1.length : Int) = c1 → r = false := fun q => hd (by
        rw [Bool.eq_false_iff]
        intro q'
        exact q (hpre.1 q' r1 (List.mem_of_getElem? q2)))
      have k2 : (r1.length : Int) = c1 → ∀ s1, Weak (hpF []) s1 ⟨[(60, .int (jj + 1)), (59, .int zj), (58, .e (.sl x1)), (6, .ref 2 0), (19, .int i), (18, .int zz), (17, .e (.sl x)), (4, .int w), (3, .mp 1), (2, .bool false), (1, .ref 0 0)],
          [.box [.e (.sl x)], .smap ml, .box [.str n1, .int c1, .e (.sl x1)]]⟩ → K3 s1 := fun q s1 hw => by
        refine hK3 s1 (mm - 1) _ (by omega) hw ⟨jj + 1, zj, w, by omega, jz, by omega, jw, fun k r' hk hr' => ?_, rfl⟩
        by_cases hkj : (k : Int) < jj
        · exact j2 k r' hkj hr'
        · have : k = jj.toNat := by omega
          subst this
          rw [q2] at hr'
          cases hr'
          exact q
      clear hK3 hK2 hd hpre j2
      cbv
      repeat' first | with_reducible rfl | with_reducible refine And.intro ?_ ?_ | ((with_reducible intro hcc); first | (cases hcc; done) | skip) | ((with_reducible first | show goC _ _ _ _ _ _ _ _ | show goOps _ _ _ _ _ | show goD _ _ _ _ _ _); cbv) | ((with_reducible show okWr _ _ = _); rfl) | ((with_reducible refine hA.row x1 _ _ ⟨hjn, fun row hrow => ?_⟩); rw [e2] at hrow; subst hrow; cbv) | ((with_reducible first | refine hA.fin_pl _ _ _ ?_ | refine hA.len _ _ _ _ _ fun z hz hb => ?_ | refine hA.off _ _ _ _ fun b hb => ?_ | refine hA.plus _ _ _ fun b hb => ?_ | refine hA.gb0 true _ ?_ | refine hA.gb0 false _ ?_ | refine hA.gb _ _ fun vb hvb => ?_ | refine hA.mset _ _ _ _ fun ml hml => ?_); cbv) | ((with_reducible first | refine hA.st _ _ _ _ _ ⟨?_, fun ds hds => ?_⟩ | refine hA.sapp _ _ _ ⟨?_, fun sl hsl => ?_⟩); rotate_left; cbv) | ((with_reducible refine hA.mget _ _ _ _ ⟨fun mv hmv => ?_, fun hmv => ?_⟩) <;> cbv) | (simp only [hA.lits]; cbv)
      all_goals try simp only [hA.ar, inR, n_cast, Int.ofNat_eq_natCast, Option.getD_some, Option.getD_none] at *
      all_goals first
        | omega
        | (rw [k1 (by clear k1 k2 hx hx1 e1 e2 hy1 hml hmv; grind)]; done)
        | (exact k2 (by clear k1 k2 hx hx1 e1 e2 hy1 hml hmv; grind) _ (Weak.keep ⟨rfl, rfl, rfl, rfl, rfl, rfl, rfl, rfl, rfl, rfl, rfl, trivial⟩))
        | (clear k1 k2 hml hmv; simp at *; omega)
        | (clear k1 k2 hml hmv; grind; done)
        | (trace_state; fail)
    · have hgt : g = true := hpre.2 fun r' hr' => by
        obtain ⟨k, hk, e⟩ := List.getElem_of_mem hr'
        exact j2 k r' (by omega) (by rw [← e]; simp [hk])
      have hK4 := hK2 hgt
      clear hK3 hK2 hd hpre j2
      cbv
      repeat' first | with_reducible rfl | with_reducible refine And.intro ?_ ?_ | ((with_reducible intro hcc); first | (cases hcc; done) | skip) | ((with_reducible first | show goC _ _ _ _ _ _ _ _ | show goOps _ _ _ _ _ | show goD _ _ _ _ _ _); cbv) | ((with_reducible show okWr _ _ = _); rfl) | (exfalso; simp only [hA.lt, hA.sub, decide_eq_true_eq, decide_eq_false_iff_not, n_cast] at *; omega) | ((with_reducible first | refine hA.fin_pl _ _ _ ?_ | refine hA.len _ _ _ _ _ fun z hz hb => ?_ | refine hA.off _ _ _ _ fun b hb => ?_ | refine hA.plus _ _ _ fun b hb => ?_ | refine hA.gb0 true _ ?_ | refine hA.gb0 false _ ?_ | refine hA.gb _ _ fun vb hvb => ?_ | refine hA.mset _ _ _ _ fun ml hml => ?_); cbv) | ((with_reducible first | refine hA.st _ _ _ _ _ ⟨?_, fun ds hds => ?_⟩ | refine hA.sapp _ _ _ ⟨?_, fun sl hsl => ?_⟩); rotate_left; cbv) | ((with_reducible refine hA.mget _ _ _ _ ⟨fun mv hmv => ?_, fun hmv => ?_⟩) <;> cbv) | (simp only [hA.lits]; cbv)
      all_goals try simp only [hA.ar, inR, n_cast, Int.ofNat_eq_natCast, Option.getD_some, Option.getD_none] at *
      all_goals first
        | omega
        | (refine hK4 w ml jw hml _ (Weak.ren (l0 := []) [0, 1] (fun t => [(19, .int (i + 1)), (18, .int zz), (17, .e (.sl x)), (4, .int w), (3, .mp (t 1)), (2, .bool false), (1, .ref (t 0) 0)]) (fun t => [.box [.e (.sl x)], .smap ml]) rfl ⟨.inl rfl, .inl rfl, .inl rfl, .inl rfl, .inl rfl, .inl rfl, .inl rfl, trivial⟩ ⟨rfl, rfl, trivial⟩ ⟨fun t => rfl, rfl, fun t => rfl, by simp [O.lt, lts, D.lt]⟩))
        | (clear hK4 hml hmv; simp at *; omega)
        | (trace_state; fail)
  · have hd0 : ts.drop i.toNat = [] := by rw [List.drop_eq_nil_iff]; omega
    rw [hd0] at h3
    have h3 : rows + 0 = sumC rlen ts := h3
    have hr3 := d3 h50 fun j t ht => h4 j t (by have := (List.getElem?_eq_some_iff.1 ht).1; omega) ht
    clear hK h4 h5 d1 d2 d3
    cbv
    repeat' first | with_reducible rfl | with_reducible refine And.intro ?_ ?_ | ((with_reducible intro hcc); first | (cases hcc; done) | skip) | ((with_reducible first | show goC _ _ _ _ _ _ _ _ | show goOps _ _ _ _ _ | show goD _ _ _ _ _ _); cbv) | ((with_reducible show okWr _ _ = _); rfl) | (exfalso; simp only [hA.lt, hA.sub, decide_eq_true_eq, decide_eq_false_iff_not, n_cast] at *; omega) | ((with_reducible first | refine hA.fin_pl _ _ _ ?_ | refine hA.len _ _ _ _ _ fun z hz hb => ?_ | refine hA.off _ _ _ _ fun b hb => ?_ | refine hA.plus _ _ _ fun b hb => ?_ | refine hA.gb0 true _ ?_ | refine hA.gb0 false _ ?_ | refine hA.gb _ _ fun vb hvb => ?_ | refine hA.mset _ _ _ _ fun ml hml => ?_); cbv) | ((with_reducible first | refine hA.st _ _ _ _ _ ⟨?_, fun ds hds => ?_⟩ | refine hA.sapp _ _ _ ⟨?_, fun sl hsl => ?_⟩); rotate_left; cbv) | ((with_reducible refine hA.mget _ _ _ _ ⟨fun mv hmv => ?_, fun hmv => ?_⟩) <;> cbv) | (simp only [hA.lits]; cbv)
    all_goals try simp only [hA.ar, inR, n_cast, Int.ofNat_eq_natCast, Option.getD_some, Option.getD_none] at *
    all_goals first
      | (rw [hr3, ← h3, Int.add_zero]; done)
      | omega
      | (trace_state; fail))
end Go.Proofs.Ytfplalbognalkaa.Ab
/- Plans: in order, by both; the ranges of widths. -/
namespace Go.Proofs.Ytfplalbognalkaa.Ab
open Go
theorem frN_le (ns : List Pd) : ∀ (n : Nat) (i : Int), -1 ≤ i → frN ns n i ≤ i
  | 0, i, h => by simp only [frN]; omega
  | n + 1, i, h => by
    unfold frN
    split
    · exact chain_le _ _ h fun j h1 h2 => frN_le ns n j (by omega)
    · omega
theorem frN_fuel (ns : List Pd) : ∀ (n m : Nat) (i : Int), 0 ≤ i → i < n → i < m → frN ns n i = frN ns m i
  | 0, _, _, _, h, _ => by omega
  | _, 0, _, _, _, h => by omega
  | n + 1, m + 1, i, h0, h1, h2 => by
    unfold frN
    split
    · exact chain_congr _ _ fun j h3 h4 => ⟨frN_fuel ns n m j h3 (by omega) (by omega), frN_le ns n j (by omega)⟩
    · rfl
/-- Where the stretch of a node begins; -1: not in order. -/
def fr (ns : List Pd) (i : Nat) : Int := frN ns (i + 1) i
theorem fr_le (ns : List Pd) (i : Nat) : fr ns i ≤ i := frN_le ns _ _ (by omega)
theorem fr_eq (ns : List Pd) (i : Nat) : fr ns i = if formP (ns.getD i default) = true then chain (fun j => fr ns j.toNat) (kidsP (ns.getD i default)) i else -1 := by
  rw [fr, frN, Int.toNat_natCast]
  split
  · exact chain_congr _ _ fun j h1 h2 => ⟨by
      rw [fr, show ((j.toNat : Nat) : Int) = j by omega]
      exact frN_fuel ns _ _ j h1 (by omega) (by omega), frN_le ns i j (by omega)⟩
  · rfl
theorem fr_kids {ns : List Pd} {i : Nat} (h : 0 ≤ fr ns i) : formP (ns.getD i default) = true ∧ (∀ k ∈ kidsP (ns.getD i default), 0 ≤ k ∧ k < i ∧ 0 ≤ fr ns k.toNat) ∧ ∀ j : Int, fr ns i ≤ j → j < i → ∃ k ∈ kidsP (ns.getD i default), fr ns k.toNat ≤ j ∧ j ≤ k := by
  have e := fr_eq ns i
  split at e
  · rename_i hf
    rw [e] at h
    obtain ⟨q1, q2⟩ := chain_mem (f := fun j => fr ns j.toNat) (fun j hj => by have := fr_le ns j.toNat; omega) _ _ h
    rw [← e] at q2
    exact ⟨hf, q1, q2⟩
  · omega
theorem fr_all {ns : List Pd} : ∀ (n i : Nat), i < n → 0 ≤ fr ns i → ∀ j : Nat, fr ns i ≤ j → j ≤ i → 0 ≤ fr ns j
  | 0, _, h, _, _, _, _ => by omega
  | n + 1, i, hn, h, j, h1, h2 => by
    rcases Nat.lt_or_ge j i with hji | hji
    · obtain ⟨_, q1, q2⟩ := fr_kids h
      obtain ⟨k, k1, k2, k3⟩ := q2 j h1 (by omega)
      obtain ⟨a, b, c⟩ := q1 k k1
      exact fr_all n k.toNat (by omega) c j k2 (by omega)
    · have : j = i := by omega
      subst this
      exact h
/-- The nodes are in order. -/
def ordOk (ns : List Pd) : Bool := decide (1 ≤ ns.length ∧ ns.length ≤ 2000) && decide (fr ns (ns.length - 1) = 0)
theorem ord_all {ns : List Pd} (h : ordOk ns = true) : ∀ j : Nat, j < ns.length → 0 ≤ fr ns j := fun j hj => by
  simp only [ordOk, Bool.and_eq_true, decide_eq_true_eq] at h
  exact fr_all ns.length (ns.length - 1) (by omega) (by omega) j (by omega) (by omega)
theorem fr_in {ns : List Pd} {i : Nat} (h : 0 ≤ fr ns i) : (1 ≤ (ns.getD i default).K ∧ (ns.getD i default).K ≤ 10) ∧ (hasL (ns.getD i default).K = true → 0 ≤ (ns.getD i default).L ∧ (ns.getD i default).L < i) ∧ (hasR (ns.getD i default).K = true → 0 ≤ (ns.getD i default).R ∧ (ns.getD i default).R < i) := by
  obtain ⟨h1, h2, _⟩ := fr_kids h
  simp only [formP, Bool.and_eq_true, decide_eq_true_eq] at h1
  refine ⟨h1.1, fun a => ?_, fun a => ?_⟩
  · obtain ⟨x, y, _⟩ := h2 (ns.getD i default).L (List.mem_append.2 (.inr (by rw [if_pos a]; exact List.mem_singleton.2 rfl))); exact ⟨x, y⟩
  · obtain ⟨x, y, _⟩ := h2 (ns.getD i default).R (List.mem_append.2 (.inl (by rw [if_pos a]; exact List.mem_singleton.2 rfl))); exact ⟨x, y⟩
theorem ord_in {ns : List Pd} (h : ordOk ns = true) : InP ns := fun j h0 h1 => by
  have := fr_in (ord_all h j.toNat (by omega))
  rw [show ((j.toNat : Nat) : Int) = j by omega] at this
  exact this
theorem l3F_ord {ns : List Pd} (h : 1 ≤ ns.length ∧ ns.length ≤ 2000) : ordOk ns = decide (l3F ns ns.length ((ns.length : Int) - 1) = 0) := by
  rw [← frN_eq ns _ _ (by omega), ordOk, decide_eq_true h, Bool.true_and, fr, show ns.length - 1 + 1 = ns.length by omega, show ((ns.length - 1 : Nat) : Int) = (ns.length : Int) - 1 by omega]
/-- The width of a valid plan; -1: not valid. -/
def planW (ns : List Pd) (ts : List Tb) : Int := if dbOk ts = true ∧ ordOk ns = true then wS ns ts.length (colsOf ts) ns.length ((ns.length : Int) - 1) 0 else -1
theorem ndS_rng {d : Pd} {cols : Int → Int} {env l r : Int} (h : 0 ≤ ndS d cols env l r) : env + ndS d cols env l r ≤ 200 := by
  unfold ndS at h ⊢
  simp only at h ⊢
  repeat' split at h
  all_goals first | omega | skip
  all_goals simp_all
  all_goals omega
theorem wS_rng {ns : List Pd} {nt : Int} {cols : Int → Int} {n : Nat} {i env : Int} (h : 0 ≤ wS ns nt cols n i env) : env + wS ns nt cols n i env ≤ 200 := by
  cases n with
  | zero => simp [wS] at h
  | succ n =>
    have key : ∀ (d : Pd) (u : Bool) (l r v : Int), (v = if u = false then -1 else if l < 0 then -1 else if r < 0 then -1 else ndS d cols env l r) → 0 ≤ v → env + v ≤ 200 := fun d u l r v e h => by
      subst e
      split at h
      · omega
      · rename_i h1
        split at h
        · omega
        · rename_i h2
          split at h
          · omega
          · rename_i h3
            rw [if_neg h1, if_neg h2, if_neg h3]
            exact ndS_rng h
    simp only [wS] at h ⊢
    exact key _ _ _ _ _ rfl h
end Go.Proofs.Ytfplalbognalkaa.Ab
/- Plans: the tree of operators that the program builds. -/
namespace Go.Proofs.Ytfplalbognalkaa.Ab
open Go
inductive Ot where
  | unit
  | scan (t : Tb)
  | filter (ex : List (Int × Int)) (l : Ot)
  | project (exs : List (List (Int × Int))) (l : Ot)
  | cross (l r : Ot) (dep : Bool)
  | mark (ex : List (Int × Int)) (l r : Ot)
  | agg (m : Int) (ex : List (Int × Int)) (l r : Ot)
  | distinct (l : Ot)
  | union (l r : Ot)
def Ot.T : Ot → TypeId
  | .unit => 228
  | .scan _ => 230
  | .filter _ _ => 232
  | .project _ _ => 234
  | .cross _ _ _ => 236
  | .mark _ _ _ => 238
  | .agg _ _ _ _ => 240
  | .distinct _ => 242
  | .union _ _ => 244
mutual
/-- The cells of an operator. -/
def Ot.cs : Ot → List E
  | .unit => []
  | .scan t => tbr t
  | .filter ex l => [.sl (ex.map orow), l.E]
  | .project exs l => [.sl (exs.map orr), l.E]
  | .cross l r dep => [l.E, r.E, .bool dep]
  | .mark ex l r => [.sl (ex.map orow), l.E, r.E]
  | .agg m ex l r => [.int m, .sl (ex.map orow), l.E, r.E]
  | .distinct l => [l.E]
  | .union l r => [l.E, r.E]
def Ot.E : Ot → E
  | .unit => .ia 228 []
  | .scan t => .ia 230 (tbr t)
  | .filter ex l => .ia 232 [.sl (ex.map orow), l.E]
  | .project exs l => .ia 234 [.sl (exs.map orr), l.E]
  | .cross l r dep => .ia 236 [l.E, r.E, .bool dep]
  | .mark ex l r => .ia 238 [.sl (ex.map orow), l.E, r.E]
  | .agg m ex l r => .ia 240 [.int m, .sl (ex.map orow), l.E, r.E]
  | .distinct l => .ia 242 [l.E]
  | .union l r => .ia 244 [l.E, r.E]
end
theorem Ot.E_eq (o : Ot) : o.E = .ia o.T o.cs := by cases o <;> simp [Ot.E, Ot.T, Ot.cs]
def Ot.w : Ot → Int
  | .unit => 0
  | .scan t => t.2.1
  | .filter _ l => l.w
  | .project exs _ => exs.length
  | .cross l r _ => l.w + r.w
  | .mark _ l _ => l.w + 1
  | .agg _ _ l _ => l.w + 1
  | .distinct l => l.w
  | .union l _ => l.w
/-- All widths inside are small. -/
def Ot.sm : Ot → Prop
  | .unit => True
  | .scan t => 0 ≤ t.2.1 ∧ t.2.1 ≤ 1000
  | .filter _ l => l.sm
  | .project exs l => exs.length ≤ 1048576 ∧ l.sm
  | .cross l r _ => (0 ≤ l.w ∧ l.w ≤ 1000 ∧ 0 ≤ r.w ∧ r.w ≤ 1000) ∧ l.sm ∧ r.sm
  | .mark _ l r => (0 ≤ l.w ∧ l.w ≤ 1000) ∧ l.sm ∧ r.sm
  | .agg _ _ l r => (0 ≤ l.w ∧ l.w ≤ 1000) ∧ l.sm ∧ r.sm
  | .distinct l => l.sm
  | .union l r => l.sm ∧ r.sm
/-- A node over the operators of its kids. -/
def ndO (d : Pd) (ts : List Tb) (env : Int) (l r : Ot) : Option Ot :=
  if d.K = 1 then some .unit
  else if d.K = 2 then (if d.T < 0 ∨ (ts.length : Int) ≤ d.T then none else some (.scan (ts.getD d.T.toNat ([], 0, []))))
  else if d.K = 3 then (if exOk d.Ex (env + l.w) = true then some (.filter d.Ex l) else none)
  else if d.K = 4 then (if (d.Exs.any fun e => !exOk e (env + l.w)) = false then some (.project d.Exs l) else none)
  else if d.K = 5 ∨ d.K = 6 then some (.cross l r (decide (d.K = 6)))
  else if d.K = 7 then (if exOk d.Ex (env + l.w + r.w) = true then some (.mark d.Ex l r) else none)
  else if d.K = 8 then (if d.M = 1 ∨ exOk d.Ex (env + l.w + r.w) = true then some (.agg d.M d.Ex l r) else none)
  else if d.K = 9 then some (.distinct l)
  else if d.K = 10 then (if l.w = r.w then some (.union l r) else none)
  else none
def mkO (ns : List Pd) (ts : List Tb) : Nat → Int → Int → Option Ot
  | 0, _, _ => none
  | n + 1, i, env =>
    let d := ns.getD i.toNat default
    if usedI d = false then none else
    match (if hasL d.K then mkO ns ts n d.L env else some .unit) with
    | none => none
    | some l => match (if hasR d.K then mkO ns ts n d.R (if depK d.K then env + l.w else env) else some .unit) with
      | none => none
      | some r => match ndO d ts env l r with
        | none => none
        | some o => if o.w + env > 200 then none else some o
theorem nd_w (d : Pd) (ts : List Tb) (env : Int) (l r : Ot) : (match ndO d ts env l r with | none => none | some o => if o.w + env > 200 then none else some o.w) = ndI d ts.length (colsOf ts) env l.w r.w := by
  have key : (ndO d ts env l r).map Ot.w = (if d.K = 1 then some 0
    else if d.K = 2 then (if d.T < 0 ∨ (ts.length : Int) ≤ d.T then none else some (colsOf ts d.T))
    else if d.K = 3 then (if exOk d.Ex (env + l.w) = true then some l.w else none)
    else if d.K = 4 then (if (d.Exs.any fun e => !exOk e (env + l.w)) = false then some (d.Exs.length : Int) else none)
    else if d.K = 5 ∨ d.K = 6 then some (l.w + r.w)
    else if d.K = 7 then (if exOk d.Ex (env + l.w + r.w) = true then some (l.w + 1) else none)
    else if d.K = 8 then (if d.M = 1 ∨ exOk d.Ex (env + l.w + r.w) = true then some (l.w + 1) else none)
    else if d.K = 9 then some l.w
    else if d.K = 10 then (if l.w = r.w then some l.w else none)
    else none) := by
    unfold ndO
    repeat' split
    all_goals rfl
  rw [ndI, ← key]
  cases ndO d ts env l r <;> rfl
theorem mk_w (ns : List Pd) (ts : List Tb) : ∀ (n : Nat) (i env : Int), (mkO ns ts n i env).map Ot.w = wI ns ts.length (colsOf ts) n i env
  | 0, _, _ => rfl
  | n + 1, i, env => by
    have ih := mk_w ns ts n
    obtain ⟨d, hd⟩ : ∃ d, d = ns.getD i.toNat default := ⟨_, rfl⟩
    simp only [mkO, wI]
    rw [← hd]
    cases hu : usedI d
    · simp
    simp only [Bool.true_eq_false, if_false]
    have e1 : (if hasL d.K = true then wI ns ts.length (colsOf ts) n d.L env else some 0) = (if hasL d.K = true then mkO ns ts n d.L env else some .unit).map Ot.w := by
      cases hasL d.K <;> simp [ih, Ot.w]
    rw [e1]
    cases hl : (if hasL d.K = true then mkO ns ts n d.L env else some Ot.unit) with
    | none => simp
    | some l =>
      simp only [Option.map_some]
      have e2 : (if hasR d.K = true then wI ns ts.length (colsOf ts) n d.R (if depK d.K then env + l.w else env) else some 0) = (if hasR d.K = true then mkO ns ts n d.R (if depK d.K then env + l.w else env) else some .unit).map Ot.w := by
        cases hasR d.K <;> simp [ih, Ot.w]
      rw [e2]
      cases hr : (if hasR d.K = true then mkO ns ts n d.R (if depK d.K then env + l.w else env) else some Ot.unit) with
      | none => simp
      | some r =>
        simp only [Option.map_some]
        rw [← nd_w]
        cases ndO d ts env l r with
        | none => rfl
        | some o =>
          simp only
          split <;> rfl
end Go.Proofs.Ytfplalbognalkaa.Ab
/- The code of helpers over expressions. -/
namespace Go.Proofs.Ytfplalbognalkaa.Ab
open Go
def c173 : F := ⟨27, [(.tmp 4)], (.seq (.reg [⟨(some 4), none, (.mov (.c (.int 0)))⟩]) (.seq (.reg [⟨(some 6), none, (.mov (.s 1))⟩, ⟨(some 7), none, (.mov (.s 0))⟩, ⟨(some 8), none, (.lenl (.s 7))⟩, ⟨(some 9), none, (.bin .sub (.s 6) (.s 8))⟩, ⟨(some 1), none, (.mov (.s 9))⟩]) (.seq (.seq (.reg [⟨(some 10), none, (.mov (.s 1))⟩, ⟨(some 11), none, (.bin .lss (.s 10) (.c (.int 0)))⟩]) (.cond (.s 11) (.seq (.reg [⟨(some 4), none, (.mov (.c (.int (-1))))⟩]) .ret) .skip)) (.seq (.seq (.reg [⟨(some 5), none, (.mov (.c (.int 0)))⟩]) (.block 0 (.loop (.seq (.seq (.reg [⟨(some 12), none, (.mov (.s 5))⟩, ⟨(some 13), none, (.mov (.s 0))⟩, ⟨(some 14), none, (.lenl (.s 13))⟩, ⟨(some 15), none, (.bin .lss (.s 12) (.s 14))⟩]) (.cond (.s 15) .skip (.exit 0))) (.seq (.block 1 (.seq (.reg [⟨(some 18), none, (.mov (.s 0))⟩, ⟨(some 19), none, (.mov (.s 5))⟩, ⟨(some 20), none, (.iadr none 1 (.s 18) (.s 19))⟩, ⟨(some 21), none, (.load false 1 (.s 20))⟩, ⟨(some 22), none, (.mov (.s 1))⟩, ⟨(some 23), none, (.call 172 [(.s 21), (.s 22)])⟩, ⟨(some 1), none, (.mov (.s 23))⟩]) (.seq (.reg [⟨(some 24), none, (.mov (.s 1))⟩, ⟨(some 25), none, (.bin .lss (.s 24) (.c (.int 0)))⟩]) (.cond (.s 25) (.seq (.reg [⟨(some 4), none, (.mov (.c (.int (-1))))⟩]) .ret) .skip)))) (.reg [⟨(some 16), none, (.mov (.s 5))⟩, ⟨(some 17), none, (.bin .add (.s 16) (.c (.int 1)))⟩, ⟨(some 5), none, (.mov (.s 17))⟩])))))) (.seq (.reg [⟨(some 26), none, (.mov (.s 1))⟩, ⟨(some 4), none, (.mov (.s 26))⟩]) .ret)))))⟩
theorem p173 : prepF Try.prog 173 = some c173 := by kernel_rfl
def c177 : F := ⟨23, [(.tmp 2)], (.seq (.reg [⟨(some 2), none, (.mov (.c .zs))⟩]) (.seq (.reg [⟨(some 5), none, (.mov (.s 0))⟩, ⟨(some 6), none, (.lenl (.s 5))⟩, ⟨(some 7), none, (.mks [(.e (.sl []))] (.s 6))⟩, ⟨(some 3), none, (.mov (.s 7))⟩]) (.seq (.seq (.reg [⟨(some 4), none, (.mov (.c (.int 0)))⟩]) (.block 0 (.loop (.seq (.seq (.reg [⟨(some 8), none, (.mov (.s 4))⟩, ⟨(some 9), none, (.mov (.s 0))⟩, ⟨(some 10), none, (.lenl (.s 9))⟩, ⟨(some 11), none, (.bin .lss (.s 8) (.s 10))⟩]) (.cond (.s 11) .skip (.exit 0))) (.seq (.block 1 (.reg [⟨(some 14), none, (.mov (.s 3))⟩, ⟨(some 15), none, (.mov (.s 4))⟩, ⟨(some 16), none, (.mov (.s 0))⟩, ⟨(some 17), none, (.mov (.s 4))⟩, ⟨(some 18), none, (.iadr none 1 (.s 16) (.s 17))⟩, ⟨(some 19), none, (.load false 1 (.s 18))⟩, ⟨(some 20), none, (.call 176 [(.s 19)])⟩, ⟨(some 21), none, (.iadr none 1 (.s 14) (.s 15))⟩, ⟨none, none, (.store false 1 (.s 21) (.s 20))⟩])) (.reg [⟨(some 12), none, (.mov (.s 4))⟩, ⟨(some 13), none, (.bin .add (.s 12) (.c (.int 1)))⟩, ⟨(some 4), none, (.mov (.s 13))⟩])))))) (.seq (.reg [⟨(some 22), none, (.mov (.s 3))⟩, ⟨(some 2), none, (.mov (.s 22))⟩]) .ret))))⟩
theorem p177 : prepF Try.prog 177 = some c177 := by kernel_rfl
def c182 : F := ⟨9, [(.tmp 4)], (.seq (.reg [⟨(some 4), none, (.mov (.c (.bool false)))⟩]) (.seq (.reg [⟨(some 5), none, (.mov (.s 0))⟩, ⟨(some 6), none, (.mov (.s 1))⟩, ⟨(some 7), none, (.call 196 [(.s 5), (.s 6)])⟩, ⟨(some 8), none, (.bin .geq (.s 7) (.c (.int 0)))⟩, ⟨(some 4), none, (.mov (.s 8))⟩]) .ret))⟩
theorem p182 : prepF Try.prog 182 = some c182 := by kernel_rfl
def c185 : F := ⟨27, [(.tmp 4)], (.seq (.reg [⟨(some 4), none, (.mov (.c (.bool false)))⟩]) (.seq (.seq (.reg [⟨(some 6), none, (.mov (.s 0))⟩, ⟨(some 7), none, (.lenl (.s 6))⟩, ⟨(some 8), none, (.mov (.s 1))⟩, ⟨(some 9), none, (.lenl (.s 8))⟩, ⟨(some 10), none, (.bin .neq (.s 7) (.s 9))⟩]) (.cond (.s 10) (.seq (.reg [⟨(some 4), none, (.mov (.c (.bool false)))⟩]) .ret) .skip)) (.seq (.seq (.reg [⟨(some 5), none, (.mov (.c (.int 0)))⟩]) (.block 0 (.loop (.seq (.seq (.reg [⟨(some 11), none, (.mov (.s 5))⟩, ⟨(some 12), none, (.mov (.s 0))⟩, ⟨(some 13), none, (.lenl (.s 12))⟩, ⟨(some 14), none, (.bin .lss (.s 11) (.s 13))⟩]) (.cond (.s 14) .skip (.exit 0))) (.seq (.block 1 (.seq (.dreg [⟨⟨(some 17), none, (.mov (.s 0))⟩, [], [0]⟩, ⟨⟨(some 18), none, (.mov (.s 5))⟩, [0], [5]⟩, ⟨⟨(some 19), none, (.iadr none 1 (.s 17) (.s 18))⟩, [], [17, 18]⟩, ⟨⟨(some 20), none, (.load false 1 (.s 19))⟩, [], [19]⟩, ⟨⟨(some 21), none, (.mov (.s 1))⟩, [0, 1, 2, 3], [1]⟩, ⟨⟨(some 22), none, (.mov (.s 5))⟩, [0, 1, 2, 3, 4], [5]⟩, ⟨⟨(some 23), none, (.iadr none 1 (.s 21) (.s 22))⟩, [0, 1, 2, 3], [21, 22]⟩, ⟨⟨(some 24), none, (.load false 1 (.s 23))⟩, [0, 1, 2, 3], [23]⟩, ⟨⟨(some 25), none, (.call 184 [(.s 20), (.s 24)])⟩, [], [20, 24]⟩, ⟨⟨(some 26), none, (.un .not (.s 25))⟩, [], [25]⟩]) (.cond (.s 26) (.seq (.reg [⟨(some 4), none, (.mov (.c (.bool false)))⟩]) .ret) .skip))) (.reg [⟨(some 15), none, (.mov (.s 5))⟩, ⟨(some 16), none, (.bin .add (.s 15) (.c (.int 1)))⟩, ⟨(some 5), none, (.mov (.s 16))⟩])))))) (.seq (.reg [⟨(some 4), none, (.mov (.c (.bool true)))⟩]) .ret))))⟩
theorem p185 : prepF Try.prog 185 = some c185 := by kernel_rfl
def c196 : F := ⟨19, [(.tmp 4)], (.seq (.reg [⟨(some 4), none, (.mov (.c (.int 0)))⟩]) (.seq (.seq (.reg [⟨(some 6), none, (.mov (.s 0))⟩, ⟨(some 7), none, (.lenl (.s 6))⟩, ⟨(some 8), none, (.mov (.c (.int 0)))⟩]) (.block 0 (.loop (.seq (.reg [⟨(some 9), none, (.bin .lss (.s 8) (.s 7))⟩]) (.seq (.cond (.s 9) .skip (.exit 0)) (.seq (.block 1 (.seq (.reg [⟨(some 10), none, (.mov (.s 8))⟩, ⟨(some 5), none, (.mov (.s 10))⟩]) (.seq (.reg [⟨(some 11), none, (.mov (.s 1))⟩, ⟨(some 12), none, (.mov (.s 0))⟩, ⟨(some 13), none, (.mov (.s 5))⟩, ⟨(some 14), none, (.iadr none 1 (.s 12) (.s 13))⟩, ⟨(some 15), none, (.load false 1 (.s 14))⟩, ⟨(some 16), none, (.callv (.s 11) [(.s 15)])⟩]) (.cond (.s 16) (.seq (.reg [⟨(some 17), none, (.mov (.s 5))⟩, ⟨(some 4), none, (.mov (.s 17))⟩]) .ret) .skip)))) (.reg [⟨(some 18), none, (.bin .add (.s 8) (.c (.int 1)))⟩, ⟨(some 8), none, (.mov (.s 18))⟩]))))))) (.seq (.reg [⟨(some 4), none, (.mov (.c (.int (-1))))⟩]) .ret)))⟩
theorem p196 : prepF Try.prog 196 = some c196 := by kernel_rfl
end Go.Proofs.Ytfplalbognalkaa.Ab
