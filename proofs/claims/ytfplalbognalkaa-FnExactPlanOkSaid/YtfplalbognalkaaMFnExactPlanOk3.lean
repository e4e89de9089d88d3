/- The laws' helpers over rows of rows and tables: measured, copied, alike. -/
import Derived.Test.YtfplalbognalkaaMFnExactPlanOk2
set_option linter.unusedSimpArgs false
set_option linter.unusedVariables false
set_option linter.unnecessarySimpa false
set_option linter.constructorNameAsVariable false
namespace Go.Proofs.Ytfplalbognalkaa.Ab
open Go
abbrev rsr (r : List (Bool × Int)) : List E := [E.sl (r.map vr)]
abbrev Tb := List UInt8 × Int × List (List (Bool × Int))
abbrev tbr (t : Tb) : List E := [E.str t.1, E.int t.2.1, E.sl (t.2.2.map rsr)]
theorem row_at {α : Type} {f : α → List E} {l : List α} {es : List (List E)} (he : es = l.map f) {n : Int} (h : 0 ≤ n ∧ n < es.length) : ∃ p, es.getD n.toNat [] = f p ∧ l[n.toNat]? = some p := by
  subst he
  have hn : n.toNat < l.length := by simp at h; omega
  exact ⟨l[n.toNat], by simp [List.getD, hn], by simp [hn]⟩
/-- What is left of a budget; -1: it did not do. -/
def cut (left t : Int) : Int := if left - t < 0 then -1 else left - t
def sumC {α : Type} (c : α → Int) : List α → Int
  | [] => 0
  | a :: l => c a + sumC c l
theorem sumC_nonneg {α : Type} {c : α → Int} (h : ∀ a, 0 ≤ c a) : ∀ l : List α, 0 ≤ sumC c l
  | [] => Int.le_refl _
  | a :: l => by have := h a; have := sumC_nonneg h l; simp only [sumC]; omega
theorem sumC_drop {α : Type} {c : α → Int} {l : List α} {i : Nat} {p : α} (h : l[i]? = some p) : sumC c (l.drop i) = c p + sumC c (l.drop (i + 1)) := by
  obtain ⟨a, b⟩ := List.getElem?_eq_some_iff.1 h
  rw [List.drop_eq_getElem_cons a, b]
  rfl
theorem sumC_mem {α : Type} {c : α → Int} (h : ∀ a, 0 ≤ c a) {l : List α} {p : α} (hp : p ∈ l) : c p ≤ sumC c l := by
  induction l with
  | nil => cases hp
  | cons a l ih =>
    simp only [sumC]
    have := h a
    have := sumC_nonneg h l
    rcases List.mem_cons.1 hp with rfl | hp
    · omega
    · have := ih hp; omega
def cV (r : List (Bool × Int)) : Int := r.length
theorem cV_nonneg (r : List (Bool × Int)) : 0 ≤ cV r := by unfold cV; omega
def cSS (rs : List (List (Bool × Int))) : Int := rs.length + sumC cV rs
theorem cSS_nonneg (rs : List (List (Bool × Int))) : 0 ≤ cSS rs := by have := sumC_nonneg cV_nonneg rs; unfold cSS; omega
def cT (t : Tb) : Int := t.1.length + cSS t.2.2
theorem cT_nonneg (t : Tb) : 0 ≤ cT t := by have := cSS_nonneg t.2.2; unfold cT; omega
def cTS (ts : List Tb) : Int := ts.length + sumC cT ts
theorem cTS_nonneg (ts : List Tb) : 0 ≤ cTS ts := by have := sumC_nonneg cT_nonneg ts; unfold cTS; omega
theorem ok57c (r : List (Bool × Int)) (x : List (List E)) (hx : x = r.map vr) (left : Int) (h : 0 ≤ left ∧ left ≤ 1048576) : Plain Try.prog 57 [.e (.sl x), .int left] (.int (cut left (cV r))) := by
  have := ok57 x left h
  rw [show x.length = r.length by rw [hx]; simp] at this
  exact this
set_option maxRecDepth 100000 in
theorem ok16 (l : List (List (Bool × Int))) (es : List (List E)) (he : es = l.map rsr) (left : Int) (h : 0 ≤ left ∧ left ≤ 1048576) : Plain Try.prog 16 [.e (.sl es), .int left] (.int (cut left (l.length + sumC cV l))) := okOf mixed p16 fun A P hA hP => (by
  have hl1 : es.length = l.length := by rw [he]; simp
  have hsn : ∀ l : List (List (Bool × Int)), 0 ≤ sumC cV l := sumC_nonneg cV_nonneg
  obtain ⟨r, hr⟩ : ∃ r, r = cut left (l.length + sumC cV l) := ⟨_, rfl⟩
  rw [← hr]
  have hr2 : r = cut (left - es.length) (sumC cV l) := by rw [hr, hl1, cut, cut]; congr 1 <;> (try apply propext) <;> omega
  clear hr
  cbv
  repeat' first | with_reducible rfl | with_reducible refine And.intro ?_ ?_ | ((with_reducible intro hcc); first | (cases hcc; done) | skip) | ((with_reducible show goC _ _ _ _ _ _ _ _); cbv) | ((with_reducible show goOps _ _ _ _ _); cbv) | ((with_reducible show goD _ _ _ _ _ _); cbv) | ((with_reducible show okWr _ _ = _); rfl) | ((with_reducible refine hA.fin_pl _ _ _ ?_); cbv) | ((with_reducible refine hA.len _ _ _ _ _ fun z hz hb => ?_); cbv) | ((with_reducible refine hA.off _ _ _ _ fun b hb => ?_); cbv) | ((with_reducible refine hA.sapp _ _ _ ⟨?_, fun sl hsl => ?_⟩); rotate_left; cbv) | (simp only [hA.natLit, hA.natOf, hA.natCast]; cbv)
  all_goals try simp only [hA.add, hA.sub, hA.mul, hA.neg, hA.div, hA.mod, hA.mn, hA.mx, hA.eq, hA.lt, hA.le, hA.nat, hA.R, hA.lep, hA.ltp, hA.seq, inR, n_cast, Int.ofNat_eq_natCast, Option.getD_some, Option.getD_none] at *
  all_goals try (first | omega | (have := hb trivial trivial trivial; omega) | (have : r = -1 := (by simp only [decide_eq_true_eq] at *; have := hsn l; rw [hr2]; unfold cut; split <;> omega); rw [this]; done))
  · refine hA.loopI (fun n s => ∃ (i lf : Int), 0 ≤ i ∧ n + i = es.length ∧ 0 ≤ lf ∧ lf ≤ 1048576 ∧ r = cut lf (sumC cV (l.drop i.toNat)) ∧
        s = ⟨[(5, .int i), (0, .e (.sl es)), (1, .int lf), (4, .int 0)], []⟩) es.length _
      (Weak.keep (env' := [(5, .int 0), (0, .e (.sl es)), (1, .int (left - z)), (4, .int 0)]) ⟨rfl, rfl, rfl, rfl, trivial⟩) ⟨0, left - z, by omega, by omega, by simp only [decide_eq_false_iff_not] at *; omega, by omega, (by rw [hr2, hz]; rfl), rfl⟩ ?_
    rintro n s K ⟨i, lf, h0, h1, h2, h3, h4, rfl⟩ hK
    clear hr2
    by_cases hin : (0 : Int) ≤ i ∧ i < es.length
    · obtain ⟨r1, e1, q1⟩ := row_at he hin
      obtain ⟨x1, hx1⟩ : ∃ x, x = r1.map vr := ⟨_, rfl⟩
      have e1 : es.getD i.toNat [] = [E.sl x1] := e1.trans (by rw [hx1])
      rw [sumC_drop q1] at h4
      obtain ⟨S, hS⟩ : ∃ S, S = sumC cV (l.drop (i.toNat + 1)) := ⟨_, rfl⟩
      have hS0 : 0 ≤ S := hS ▸ hsn _
      obtain ⟨c, hcost⟩ : ∃ c, c = cV r1 := ⟨_, rfl⟩
      have hc0 : 0 ≤ c := hcost ▸ cV_nonneg _
      have hc := ok57c r1 x1 hx1 lf ⟨h2, h3⟩
      rw [← hS, ← hcost] at h4
      rw [← hcost] at hc
      obtain ⟨u, hu⟩ : ∃ u, u = cut lf c := ⟨_, rfl⟩
      rw [← hu] at hc
      have e8 : (i + 1).toNat = i.toNat + 1 := by omega
      have g1 : u < 0 → r = -1 := fun a => by rw [h4]; unfold cut at hu ⊢; split at hu <;> split <;> omega
      have g2 : 0 ≤ u → r = cut u S ∧ u ≤ lf := fun a => by
        have hu2 : u = lf - c := by rw [hu] at a ⊢; unfold cut at a ⊢; split at a <;> split <;> omega
        refine ⟨?_, by omega⟩
        rw [h4, hu2]
        unfold cut
        rw [show lf - (c + S) = lf - c - S by omega]
      clear h4 hu hcost
      cbv
      repeat' first | with_reducible rfl | with_reducible refine And.intro ?_ ?_ | ((with_reducible intro hcc); first | (cases hcc; done) | skip) | ((with_reducible show goC _ _ _ _ _ _ _ _); cbv) | ((with_reducible show goOps _ _ _ _ _); cbv) | ((with_reducible show goD _ _ _ _ _ _); cbv) | ((with_reducible show okWr _ _ = _); rfl) | ((with_reducible refine callK_eq hA hP ?_ ?_ ?_ (Wks.refl _) (fun _ _ => hc)); exact rfl; exact rfl; cbv) | ((with_reducible refine hA.row es _ _ ⟨hin, fun row hrow => ?_⟩); rw [e1] at hrow; subst hrow; cbv) | ((with_reducible refine hA.fin_pl _ _ _ ?_); cbv) | ((with_reducible refine hA.len _ _ _ _ _ fun z hz hb => ?_); cbv) | ((with_reducible refine hA.off _ _ _ _ fun b hb => ?_); cbv) | ((with_reducible refine hA.sapp _ _ _ ⟨?_, fun sl hsl => ?_⟩); rotate_left; cbv) | (simp only [hA.natLit, hA.natOf, hA.natCast]; cbv)
      all_goals try simp only [hA.add, hA.sub, hA.mul, hA.neg, hA.div, hA.mod, hA.mn, hA.mx, hA.eq, hA.lt, hA.le, hA.nat, hA.R, hA.lep, hA.ltp, hA.seq, inR, n_cast, Int.ofNat_eq_natCast, Option.getD_some, Option.getD_none] at *
      all_goals first
        | omega
        | (clear hK g1 g2 he; simp at *; omega)
        | (rw [g1 (by clear hK g2; simp at *; omega)]; done)
        | (have hu0 : 0 ≤ u := (by clear hK; simp at *; omega)
           exact hK _ (n - 1) _ (by omega) (Weak.keep (env' := [(5, .int (i + 1)), (0, .e (.sl es)), (1, .int u), (4, .int 0)]) ⟨rfl, rfl, rfl, rfl, trivial⟩) ⟨i + 1, u, by omega, by omega, hu0, by have := (g2 hu0).2; omega, by rw [e8, ← hS]; exact (g2 hu0).1, rfl⟩)
        | (clear hK g1 g2 he; simp at *; omega)
        | (trace_state; fail)
    · have hd : l.drop i.toNat = [] := by rw [List.drop_eq_nil_iff]; omega
      rw [hd] at h4
      have h5 : r = lf := by rw [h4, sumC, cut, if_neg (by omega)]; omega
      clear h4 hK
      cbv
      repeat' first | with_reducible rfl | with_reducible refine And.intro ?_ ?_ | ((with_reducible intro hcc); first | (cases hcc; done) | skip) | ((with_reducible show goC _ _ _ _ _ _ _ _); cbv) | ((with_reducible show goOps _ _ _ _ _); cbv) | ((with_reducible show goD _ _ _ _ _ _); cbv) | ((with_reducible show okWr _ _ = _); rfl) | (exfalso; simp only [hA.lt, hA.sub, decide_eq_true_eq, decide_eq_false_iff_not, n_cast] at *; omega) | ((with_reducible refine hA.fin_pl _ _ _ ?_); cbv) | ((with_reducible refine hA.len _ _ _ _ _ fun z hz hb => ?_); cbv) | ((with_reducible refine hA.off _ _ _ _ fun b hb => ?_); cbv) | ((with_reducible refine hA.sapp _ _ _ ⟨?_, fun sl hsl => ?_⟩); rotate_left; cbv) | (simp only [hA.natLit, hA.natOf, hA.natCast]; cbv)
      all_goals try simp only [hA.add, hA.sub, hA.mul, hA.neg, hA.div, hA.mod, hA.mn, hA.mx, hA.eq, hA.lt, hA.le, hA.nat, hA.R, hA.lep, hA.ltp, hA.seq, inR, n_cast, Int.ofNat_eq_natCast, Option.getD_some, Option.getD_none] at *
      all_goals first
        | (rw [h5])
        | omega
        | (clear he; simp at *; omega)
        | (trace_state; fail))
set_option maxRecDepth 100000 in
set_option maxHeartbeats 1000000 in
theorem ok18 (l : List (List (Bool × Int))) (es : List (List E)) (he : es = l.map rsr) (hlen : es.length ≤ 1048576) (hb2 : ∀ r ∈ l, r.length ≤ 1048576) : Plain Try.prog 18 [.e (.sl es)] (.e (.sl es)) := okOf mixed p18 fun A P hA hP => (by
  have hl1 : es.length = l.length := by rw [he]; simp
  have hes : ∀ e ∈ es, e.length = 1 := by
    rw [he]
    intro e h
    obtain ⟨p, _, rfl⟩ := List.mem_map.1 h
    rfl
  cbv
  repeat' first | with_reducible rfl | with_reducible refine And.intro ?_ ?_ | ((with_reducible intro hcc); first | (cases hcc; done) | skip) | ((with_reducible show goC _ _ _ _ _ _ _ _); cbv) | ((with_reducible show goOps _ _ _ _ _); cbv) | ((with_reducible show goD _ _ _ _ _ _); cbv) | ((with_reducible show okWr _ _ = _); rfl) | ((with_reducible refine hA.fin_pl _ _ _ ?_); cbv) | ((with_reducible refine hA.len _ _ _ _ _ fun z hz hb => ?_); cbv) | ((with_reducible refine hA.off _ _ _ _ fun b hb => ?_); cbv) | ((with_reducible refine hA.rep _ _ _ fun ds m hds hm => ?_); cbv) | ((with_reducible refine hA.st _ _ _ _ _ ⟨?_, fun ds hds => ?_⟩); rotate_left; cbv) | ((with_reducible refine hA.alt _ _ (Or.inl ?_)); cbv) | ((with_reducible refine hA.sapp _ _ _ ⟨?_, fun sl hsl => ?_⟩); rotate_left; cbv) | (simp only [hA.natLit, hA.natOf, hA.natCast]; cbv)
  all_goals try simp only [hA.add, hA.sub, hA.mul, hA.neg, hA.div, hA.mod, hA.mn, hA.mx, hA.eq, hA.lt, hA.le, hA.nat, hA.R, hA.lep, hA.ltp, hA.seq, inR, n_cast, Int.ofNat_eq_natCast, Option.getD_some, Option.getD_none] at *
  · omega
  · omega
  · refine hA.loopI (fun n s => ∃ (i : Int) (xs : List (List E)), 0 ≤ i ∧ n + i = es.length ∧ xs.length = es.length ∧ (∀ e ∈ xs, e.length = 1) ∧ (∀ j : Nat, j < i → xs[j]? = es[j]?) ∧
        s = ⟨[(4, .int i), (3, .bs 0 0 m 1), (2, .zs), (0, .e (.sl es))], [.box (xs.flatten.map .e)]⟩) es.length _
      (Weak.keep (env' := [(4, .int 0), (3, .bs 0 0 m 1), (2, .zs), (0, .e (.sl es))]) ⟨rfl, rfl, rfl, rfl, trivial⟩)
      ⟨0, List.replicate m [E.sl []], by omega, by omega, by simp; omega, by simp, fun j hj => by omega, by rw [← buf_zero, hm]; rw [hds]; rfl⟩ ?_
    rintro n s K ⟨i, xs, h0, h1, h2, h3, h4, rfl⟩ hK
    obtain ⟨ys, hys⟩ : ∃ ys, ys = xs.flatten.map D.e := ⟨_, rfl⟩
    have hyl : ys.length = xs.length * 1 := by rw [hys, List.length_map, flatten_len h3]
    rw [← hys]
    by_cases hin : (0 : Int) ≤ i ∧ i < es.length
    · obtain ⟨r1, e1, q1⟩ := row_at he hin
      obtain ⟨x1, hx1⟩ : ∃ x, x = r1.map vr := ⟨_, rfl⟩
      have e1 : es.getD i.toNat [] = [E.sl x1] := e1.trans (by rw [hx1])
      have hc := ok58 r1 x1 hx1 (by have := hb2 r1 (List.mem_of_getElem? q1); rw [hx1, List.length_map]; omega)
      have hrow0 : es[i.toNat]? = some (es.getD i.toNat []) := by
        have : i.toNat < es.length := by omega
        simp [List.getD, this]
      have hrl : (es.getD i.toNat []).length = 1 := hes _ (List.mem_of_getElem? hrow0)
      cbv
      repeat' first | with_reducible rfl | with_reducible refine And.intro ?_ ?_ | ((with_reducible intro hcc); first | (cases hcc; done) | skip) | ((with_reducible show goC _ _ _ _ _ _ _ _); cbv) | ((with_reducible show goOps _ _ _ _ _); cbv) | ((with_reducible show goD _ _ _ _ _ _); cbv) | ((with_reducible show okWr _ _ = _); rfl) | ((with_reducible refine callK_eq hA hP ?_ ?_ ?_ (Wks.refl _) (fun _ _ => hc)); exact rfl; exact rfl; cbv) | ((with_reducible refine hA.row es _ _ ⟨hin, fun row hrow => ?_⟩); rw [e1] at hrow; subst hrow; cbv) | ((with_reducible refine hA.fin_pl _ _ _ ?_); cbv) | ((with_reducible refine hA.len _ _ _ _ _ fun z hz hb => ?_); cbv) | ((with_reducible refine hA.off _ _ _ _ fun b hb => ?_); cbv) | ((with_reducible refine hA.rep _ _ _ fun ds m hds hm => ?_); cbv) | ((with_reducible refine hA.st _ _ _ _ _ ⟨?_, fun ds hds => ?_⟩); rotate_left; cbv) | ((with_reducible refine hA.alt _ _ (Or.inl ?_)); cbv) | ((with_reducible refine hA.sapp _ _ _ ⟨?_, fun sl hsl => ?_⟩); rotate_left; cbv) | (simp only [hA.natLit, hA.natOf, hA.natCast]; cbv)
      all_goals try simp only [hA.add, hA.sub, hA.mul, hA.neg, hA.div, hA.mod, hA.mn, hA.mx, hA.eq, hA.lt, hA.le, hA.nat, hA.R, hA.lep, hA.ltp, hA.seq, inR, n_cast, Int.ofNat_eq_natCast, Option.getD_some, Option.getD_none] at *
      all_goals first
        | (show _ < (m : Int); omega)
        | omega
        | (clear hK h4 he; grind; done)
        | (have hb' : b = i.toNat * 1 := by omega
           refine hK _ (n - 1) _ (by omega) (Weak.keep (env' := [(4, .int (i + 1)), (3, .bs 0 0 m 1), (2, .zs), (0, .e (.sl es))]) ⟨rfl, rfl, rfl, rfl, trivial⟩)
             ⟨i + 1, xs.set i.toNat (es.getD i.toNat []), by omega, by omega, by simp [h2], fun e h => ?_, fun j hj => ?_, ?_⟩
           · rcases List.mem_or_eq_of_mem_set h with h | rfl
             · exact h3 e h
             · exact hrl
           · by_cases hji : (j : Int) < i
             · rw [List.getElem?_set_ne (show i.toNat ≠ j by omega)]; exact h4 j hji
             · have : j = i.toNat := by omega
               subst this
               rw [List.getElem?_set_self (show i.toNat < xs.length by omega), hrow0]
           · congr 2
             rw [hds, hys, hb']
             congr 1
             have q := buf_set (k := 1) (by omega) h3 (i := i.toNat) (show i.toNat < xs.length by omega) hrl
             rw [e1] at q ⊢
             exact q)
    · have hxe : xs = es := by
        refine List.ext_getElem? fun j => ?_
        by_cases hj : (j : Int) < i
        · exact h4 j hj
        · rw [List.getElem?_eq_none (by omega), List.getElem?_eq_none (by omega)]
      cbv
      repeat' first | with_reducible rfl | with_reducible refine And.intro ?_ ?_ | ((with_reducible intro hcc); first | (cases hcc; done) | skip) | ((with_reducible show goC _ _ _ _ _ _ _ _); cbv) | ((with_reducible show goOps _ _ _ _ _); cbv) | ((with_reducible show goD _ _ _ _ _ _); cbv) | ((with_reducible show okWr _ _ = _); rfl) | (exfalso; simp only [hA.lt, hA.sub, decide_eq_true_eq, decide_eq_false_iff_not, n_cast] at *; omega) | ((with_reducible refine hA.fin_bs (es := es) ?_ ?_ hes)) | ((with_reducible refine hA.fin_pl _ _ _ ?_); cbv) | ((with_reducible refine hA.len _ _ _ _ _ fun z hz hb => ?_); cbv) | ((with_reducible refine hA.off _ _ _ _ fun b hb => ?_); cbv) | ((with_reducible refine hA.rep _ _ _ fun ds m hds hm => ?_); cbv) | ((with_reducible refine hA.st _ _ _ _ _ ⟨?_, fun ds hds => ?_⟩); rotate_left; cbv) | ((with_reducible refine hA.alt _ _ (Or.inl ?_)); cbv) | ((with_reducible refine hA.sapp _ _ _ ⟨?_, fun sl hsl => ?_⟩); rotate_left; cbv) | (simp only [hA.natLit, hA.natOf, hA.natCast]; cbv)
      all_goals try simp only [hA.add, hA.sub, hA.mul, hA.neg, hA.div, hA.mod, hA.mn, hA.mx, hA.eq, hA.lt, hA.le, hA.nat, hA.R, hA.lep, hA.ltp, hA.seq, inR, n_cast, Int.ofNat_eq_natCast, Option.getD_some, Option.getD_none] at *
      all_goals first
        | (rw [hys, hxe]; rfl)
        | omega
        | (clear hK h4 he; grind; done)
        | (trace_state; fail))
set_option maxRecDepth 100000 in
theorem ok19 (l l' : List (List (Bool × Int))) (es fs : List (List E)) (he : es = l.map rsr) (hf : fs = l'.map rsr) : Plain Try.prog 19 [.e (.sl es), .e (.sl fs)] (.bool (decide (l = l'))) := okOf mixed p19 fun A P hA hP => (by
  obtain ⟨r, hr⟩ : ∃ r : Bool, r = decide (l = l') := ⟨_, rfl⟩
  rw [← hr]
  have hl1 : es.length = l.length := by rw [he]; simp
  have hl2 : fs.length = l'.length := by rw [hf]; simp
  cbv
  repeat' first | with_reducible rfl | with_reducible refine And.intro ?_ ?_ | ((with_reducible intro hcc); first | (cases hcc; done) | skip) | ((with_reducible show goC _ _ _ _ _ _ _ _); cbv) | ((with_reducible show goOps _ _ _ _ _); cbv) | ((with_reducible show goD _ _ _ _ _ _); cbv) | ((with_reducible show okWr _ _ = _); rfl) | ((with_reducible refine hA.fin_pl _ _ _ ?_); cbv) | ((with_reducible refine hA.len _ _ _ _ _ fun z hz hb => ?_); cbv) | ((with_reducible refine hA.off _ _ _ _ fun b hb => ?_); cbv) | ((with_reducible refine hA.sapp _ _ _ ⟨?_, fun sl hsl => ?_⟩); rotate_left; cbv) | (simp only [hA.natLit, hA.natOf, hA.natCast]; cbv)
  all_goals try simp only [hA.add, hA.sub, hA.mul, hA.neg, hA.div, hA.mod, hA.mn, hA.mx, hA.eq, hA.lt, hA.le, hA.nat, hA.R, hA.lep, hA.ltp, hA.seq, inR, n_cast, Int.ofNat_eq_natCast, Option.getD_some, Option.getD_none] at *
  · have : l ≠ l' := fun e => by subst e; clear hr; grind
    rw [hr]; simp [this]
  · have hzz : es.length = fs.length := by clear hr; grind
    refine hA.loopI (fun n s => ∃ i : Int, 0 ≤ i ∧ n + i = l.length ∧ (∀ j : Nat, j < i → l[j]? = l'[j]?) ∧ s = ⟨[(5, .int i), (4, .bool false), (0, .e (.sl es)), (1, .e (.sl fs))], []⟩) l.length _ (Weak.keep (env' := [(5, .int 0), (4, .bool false), (0, .e (.sl es)), (1, .e (.sl fs))]) ⟨rfl, rfl, rfl, rfl, trivial⟩) ⟨0, by omega, by omega, fun j hj => by omega, rfl⟩ ?_
    rintro n s K ⟨i, h0, h1, h2, rfl⟩ hK
    by_cases hin : (0 : Int) ≤ i ∧ i < es.length
    · have hin2 : (0 : Int) ≤ i ∧ i < fs.length := by omega
      obtain ⟨r1, e1, q1⟩ := row_at he hin
      obtain ⟨r2, e2, q2⟩ := row_at hf hin2
      obtain ⟨x1, hx1⟩ : ∃ x, x = r1.map vr := ⟨_, rfl⟩
      have e1 : es.getD i.toNat [] = [E.sl x1] := e1.trans (by rw [hx1])
      obtain ⟨x2, hx2⟩ : ∃ x, x = r2.map vr := ⟨_, rfl⟩
      have e2 : fs.getD i.toNat [] = [E.sl x2] := e2.trans (by rw [hx2])
      have hc := ok59 r1 r2 x1 x2 hx1 hx2
      obtain ⟨c, hcc⟩ : ∃ c : Bool, c = decide ((r1 : List (Bool × Int)) = r2) := ⟨_, rfl⟩
      rw [← hcc] at hc
      have c1 : c = false → r = false := fun e => by
        rw [hr, decide_eq_false_iff_not]
        intro e'
        subst e'
        rw [q1] at q2
        cases q2
        rw [e] at hcc
        simp at hcc
      have c2 : c = true → l[i.toNat]? = l'[i.toNat]? := fun e => by
        rw [e] at hcc
        rw [q1, q2, of_decide_eq_true hcc.symm]
      clear hcc hr
      cbv
      repeat' first | with_reducible rfl | with_reducible refine And.intro ?_ ?_ | ((with_reducible intro hcc); first | (cases hcc; done) | skip) | ((with_reducible show goC _ _ _ _ _ _ _ _); cbv) | ((with_reducible show goOps _ _ _ _ _); cbv) | ((with_reducible show goD _ _ _ _ _ _); cbv) | ((with_reducible show okWr _ _ = _); rfl) | ((with_reducible refine callK_eq hA hP ?_ ?_ ?_ (Wks.refl _) (fun _ _ => hc)); exact rfl; exact rfl; cbv) | ((with_reducible refine hA.row es _ _ ⟨hin, fun row hrow => ?_⟩); rw [e1] at hrow; subst hrow; cbv) | ((with_reducible refine hA.row fs _ _ ⟨hin2, fun row hrow => ?_⟩); rw [e2] at hrow; subst hrow; cbv) | ((with_reducible refine hA.fin_pl _ _ _ ?_); cbv) | ((with_reducible refine hA.len _ _ _ _ _ fun z hz hb => ?_); cbv) | ((with_reducible refine hA.off _ _ _ _ fun b hb => ?_); cbv) | ((with_reducible refine hA.sapp _ _ _ ⟨?_, fun sl hsl => ?_⟩); rotate_left; cbv) | (simp only [hA.natLit, hA.natOf, hA.natCast]; cbv)
      all_goals try simp only [hA.add, hA.sub, hA.mul, hA.neg, hA.div, hA.mod, hA.mn, hA.mx, hA.eq, hA.lt, hA.le, hA.nat, hA.R, hA.lep, hA.ltp, hA.seq, inR, n_cast, Int.ofNat_eq_natCast, Option.getD_some, Option.getD_none] at *
      all_goals first
        | omega
        | (refine hK _ (n - 1) _ (by omega) (Weak.gc (env' := [(5, .int (i + 1)), (4, .bool false), (0, .e (.sl es)), (1, .e (.sl fs))]) ⟨rfl, rfl, rfl, rfl, trivial⟩ rfl) ⟨i + 1, by omega, by omega, fun j hj => ?_, rfl⟩
           by_cases hji : (j : Int) < i
           · exact h2 j hji
           · have : j = i.toNat := by omega
             rw [this]
             exact c2 (by clear hK h2; grind))
        | (clear hK h2 he hf e1 e2; grind; done)
        | (trace_state; fail)
    · have hll : l = l' := by
        refine List.ext_getElem? fun j => ?_
        by_cases hj : (j : Int) < i
        · exact h2 j hj
        · rw [List.getElem?_eq_none (by omega), List.getElem?_eq_none (by omega)]
      have hr2 : r = true := by rw [hr, hll]; simp
      clear hr
      cbv
      repeat' first | with_reducible rfl | with_reducible refine And.intro ?_ ?_ | ((with_reducible intro hcc); first | (cases hcc; done) | skip) | ((with_reducible show goC _ _ _ _ _ _ _ _); cbv) | ((with_reducible show goOps _ _ _ _ _); cbv) | ((with_reducible show goD _ _ _ _ _ _); cbv) | ((with_reducible show okWr _ _ = _); rfl) | (exfalso; simp only [hA.lt, hA.sub, decide_eq_true_eq, decide_eq_false_iff_not, n_cast] at *; omega) | ((with_reducible refine hA.fin_pl _ _ _ ?_); cbv) | ((with_reducible refine hA.len _ _ _ _ _ fun z hz hb => ?_); cbv) | ((with_reducible refine hA.off _ _ _ _ fun b hb => ?_); cbv) | ((with_reducible refine hA.sapp _ _ _ ⟨?_, fun sl hsl => ?_⟩); rotate_left; cbv) | (simp only [hA.natLit, hA.natOf, hA.natCast]; cbv)
      all_goals try simp only [hA.add, hA.sub, hA.mul, hA.neg, hA.div, hA.mod, hA.mn, hA.mx, hA.eq, hA.lt, hA.le, hA.nat, hA.R, hA.lep, hA.ltp, hA.seq, inR, n_cast, Int.ofNat_eq_natCast, Option.getD_some, Option.getD_none] at *
      all_goals first
        | (rw [hr2])
        | omega
        | (clear hK h2 hll he hf; grind; done)
        | (trace_state; fail))
set_option maxRecDepth 100000 in
theorem ok127 (n1 : List UInt8) (c1 : Int) (rs : List (List (Bool × Int))) (x : List (List E)) (hx : x = rs.map rsr) (left : Int) (h : 0 ≤ left ∧ left ≤ 1048576) : Plain Try.prog 127 [.agg [.str n1, .int c1, .e (.sl x)], .int left] (.int (cut left (cT (n1, c1, rs)))) := okOf mixed p127 fun A P hA hP => (by
  obtain ⟨a, ha⟩ : ∃ a : Int, a = left - n1.length := ⟨_, rfl⟩
  obtain ⟨r, hr⟩ : ∃ r, r = cut left (cT (n1, c1, rs)) := ⟨_, rfl⟩
  rw [← hr]
  have hs := cSS_nonneg rs
  have hr2 : r = if a - cSS rs < 0 then -1 else a - cSS rs := by rw [hr, cut, cT, show left - ((n1.length : Int) + cSS rs) = a - cSS rs by omega]
  clear hr
  by_cases ha0 : a < 0
  · have hrr : r = -1 := by rw [hr2]; split <;> omega
    have hr2 : True := trivial
    cbv
    repeat' first | with_reducible rfl | with_reducible refine And.intro ?_ ?_ | ((with_reducible intro hcc); first | (cases hcc; done) | skip) | ((with_reducible show goC _ _ _ _ _ _ _ _); cbv) | ((with_reducible show goOps _ _ _ _ _); cbv) | ((with_reducible show goD _ _ _ _ _ _); cbv) | ((with_reducible show okWr _ _ = _); rfl) | (exfalso; simp only [hA.lt, hA.sub, decide_eq_true_eq, decide_eq_false_iff_not, n_cast] at *; omega) | ((with_reducible refine hA.fin_pl _ _ _ ?_); cbv) | ((with_reducible refine hA.slen _ _ _ _ _ fun z hz hb => ?_); cbv) | (simp only [hA.natLit, hA.natOf, hA.natCast]; cbv)
    all_goals try simp only [hA.add, hA.sub, hA.mul, hA.neg, hA.div, hA.mod, hA.mn, hA.mx, hA.eq, hA.lt, hA.le, hA.nat, hA.R, hA.lep, hA.ltp, hA.seq, inR, n_cast, Int.ofNat_eq_natCast, Option.getD_some, Option.getD_none] at *
    all_goals first | omega | (rw [hrr]) | (clear hr2; simp at *; omega) | (trace_state; fail)
  · have h46 : ∀ b, b = a → Plain Try.prog 16 [.e (.sl x), .int b] (.int (cut a (cSS rs))) := fun b hb => hb ▸ ok16 rs _ hx a (by omega)
    obtain ⟨u, hu⟩ : ∃ u, u = cut a (cSS rs) := ⟨_, rfl⟩
    rw [← hu] at h46
    rw [cut] at hu
    rw [← hu] at hr2
    cbv
    repeat' first | with_reducible rfl | with_reducible refine And.intro ?_ ?_ | ((with_reducible intro hcc); first | (cases hcc; done) | skip) | ((with_reducible show goC _ _ _ _ _ _ _ _); cbv) | ((with_reducible show goOps _ _ _ _ _); cbv) | ((with_reducible show goD _ _ _ _ _ _); cbv) | ((with_reducible show okWr _ _ = _); rfl) | ((with_reducible refine callK_eq hA hP ?_ ?_ ?_ (Wks.refl _) (fun _ _ => h46 _ ?_)); exact rfl; exact rfl; cbv) | ((with_reducible refine hA.fin_pl _ _ _ ?_); cbv) | ((with_reducible refine hA.slen _ _ _ _ _ fun z hz hb => ?_); cbv) | (simp only [hA.natLit, hA.natOf, hA.natCast]; cbv)
    all_goals try simp only [hA.add, hA.sub, hA.mul, hA.neg, hA.div, hA.mod, hA.mn, hA.mx, hA.eq, hA.lt, hA.le, hA.nat, hA.R, hA.lep, hA.ltp, hA.seq, inR, n_cast, Int.ofNat_eq_natCast, Option.getD_some, Option.getD_none] at *
    all_goals first | omega | (rw [hr2]; done) | (have : u = -1 := (by simp only [decide_eq_true_eq, decide_eq_false_iff_not] at *; split at hu <;> omega); rw [hr2, this]; done) | (clear h46; simp at *; omega) | (trace_state; fail))
set_option maxRecDepth 100000 in
theorem ok72 (l : List (Tb)) (es : List (List E)) (he : es = l.map tbr) (left : Int) (h : 0 ≤ left ∧ left ≤ 1048576) : Plain Try.prog 72 [.e (.sl es), .int left] (.int (cut left (l.length + sumC cT l))) := okOf mixed p72 fun A P hA hP => (by
  have hl1 : es.length = l.length := by rw [he]; simp
  have hsn : ∀ l : List (Tb), 0 ≤ sumC cT l := sumC_nonneg cT_nonneg
  obtain ⟨r, hr⟩ : ∃ r, r = cut left (l.length + sumC cT l) := ⟨_, rfl⟩
  rw [← hr]
  have hr2 : r = cut (left - es.length) (sumC cT l) := by rw [hr, hl1, cut, cut]; congr 1 <;> (try apply propext) <;> omega
  clear hr
  cbv
  repeat' first | with_reducible rfl | with_reducible refine And.intro ?_ ?_ | ((with_reducible intro hcc); first | (cases hcc; done) | skip) | ((with_reducible show goC _ _ _ _ _ _ _ _); cbv) | ((with_reducible show goOps _ _ _ _ _); cbv) | ((with_reducible show goD _ _ _ _ _ _); cbv) | ((with_reducible show okWr _ _ = _); rfl) | ((with_reducible refine hA.fin_pl _ _ _ ?_); cbv) | ((with_reducible refine hA.len _ _ _ _ _ fun z hz hb => ?_); cbv) | ((with_reducible refine hA.off _ _ _ _ fun b hb => ?_); cbv) | ((with_reducible refine hA.sapp _ _ _ ⟨?_, fun sl hsl => ?_⟩); rotate_left; cbv) | (simp only [hA.natLit, hA.natOf, hA.natCast]; cbv)
  all_goals try simp only [hA.add, hA.sub, hA.mul, hA.neg, hA.div, hA.mod, hA.mn, hA.mx, hA.eq, hA.lt, hA.le, hA.nat, hA.R, hA.lep, hA.ltp, hA.seq, inR, n_cast, Int.ofNat_eq_natCast, Option.getD_some, Option.getD_none] at *
  all_goals try (first | omega | (have := hb trivial trivial trivial; omega) | (have : r = -1 := (by simp only [decide_eq_true_eq] at *; have := hsn l; rw [hr2]; unfold cut; split <;> omega); rw [this]; done))
  · refine hA.loopI (fun n s => ∃ (i lf : Int), 0 ≤ i ∧ n + i = es.length ∧ 0 ≤ lf ∧ lf ≤ 1048576 ∧ r = cut lf (sumC cT (l.drop i.toNat)) ∧
        s = ⟨[(5, .int i), (0, .e (.sl es)), (1, .int lf), (4, .int 0)], []⟩) es.length _
      (Weak.keep (env' := [(5, .int 0), (0, .e (.sl es)), (1, .int (left - z)), (4, .int 0)]) ⟨rfl, rfl, rfl, rfl, trivial⟩) ⟨0, left - z, by omega, by omega, by simp only [decide_eq_false_iff_not] at *; omega, by omega, (by rw [hr2, hz]; rfl), rfl⟩ ?_
    rintro n s K ⟨i, lf, h0, h1, h2, h3, h4, rfl⟩ hK
    clear hr2
    by_cases hin : (0 : Int) ≤ i ∧ i < es.length
    · obtain ⟨⟨n1, c1, rs1⟩, e1, q1⟩ := row_at he hin
      obtain ⟨x1, hx1⟩ : ∃ x, x = rs1.map rsr := ⟨_, rfl⟩
      have e1 : es.getD i.toNat [] = [E.str n1, E.int c1, E.sl x1] := e1.trans (by rw [hx1])
      rw [sumC_drop q1] at h4
      obtain ⟨S, hS⟩ : ∃ S, S = sumC cT (l.drop (i.toNat + 1)) := ⟨_, rfl⟩
      have hS0 : 0 ≤ S := hS ▸ hsn _
      obtain ⟨c, hcost⟩ : ∃ c, c = cT (n1, c1, rs1) := ⟨_, rfl⟩
      have hc0 : 0 ≤ c := hcost ▸ cT_nonneg _
      have hc := ok127 n1 c1 rs1 x1 hx1 lf ⟨h2, h3⟩
      rw [← hS, ← hcost] at h4
      rw [← hcost] at hc
      obtain ⟨u, hu⟩ : ∃ u, u = cut lf c := ⟨_, rfl⟩
      rw [← hu] at hc
      have e8 : (i + 1).toNat = i.toNat + 1 := by omega
      have g1 : u < 0 → r = -1 := fun a => by rw [h4]; unfold cut at hu ⊢; split at hu <;> split <;> omega
      have g2 : 0 ≤ u → r = cut u S ∧ u ≤ lf := fun a => by
        have hu2 : u = lf - c := by rw [hu] at a ⊢; unfold cut at a ⊢; split at a <;> split <;> omega
        refine ⟨?_, by omega⟩
        rw [h4, hu2]
        unfold cut
        rw [show lf - (c + S) = lf - c - S by omega]
      clear h4 hu hcost
      cbv
      repeat' first | with_reducible rfl | with_reducible refine And.intro ?_ ?_ | ((with_reducible intro hcc); first | (cases hcc; done) | skip) | ((with_reducible show goC _ _ _ _ _ _ _ _); cbv) | ((with_reducible show goOps _ _ _ _ _); cbv) | ((with_reducible show goD _ _ _ _ _ _); cbv) | ((with_reducible show okWr _ _ = _); rfl) | ((with_reducible refine callK_eq hA hP ?_ ?_ ?_ (Wks.refl _) (fun _ _ => hc)); exact rfl; exact rfl; cbv) | ((with_reducible refine hA.row es _ _ ⟨hin, fun row hrow => ?_⟩); rw [e1] at hrow; subst hrow; cbv) | ((with_reducible refine hA.fin_pl _ _ _ ?_); cbv) | ((with_reducible refine hA.len _ _ _ _ _ fun z hz hb => ?_); cbv) | ((with_reducible refine hA.off _ _ _ _ fun b hb => ?_); cbv) | ((with_reducible refine hA.sapp _ _ _ ⟨?_, fun sl hsl => ?_⟩); rotate_left; cbv) | (simp only [hA.natLit, hA.natOf, hA.natCast]; cbv)
      all_goals try simp only [hA.add, hA.sub, hA.mul, hA.neg, hA.div, hA.mod, hA.mn, hA.mx, hA.eq, hA.lt, hA.le, hA.nat, hA.R, hA.lep, hA.ltp, hA.seq, inR, n_cast, Int.ofNat_eq_natCast, Option.getD_some, Option.getD_none] at *
      all_goals first
        | omega
        | (clear hK g1 g2 he; simp at *; omega)
        | (rw [g1 (by clear hK g2; simp at *; omega)]; done)
        | (have hu0 : 0 ≤ u := (by clear hK; simp at *; omega)
           exact hK _ (n - 1) _ (by omega) (Weak.keep (env' := [(5, .int (i + 1)), (0, .e (.sl es)), (1, .int u), (4, .int 0)]) ⟨rfl, rfl, rfl, rfl, trivial⟩) ⟨i + 1, u, by omega, by omega, hu0, by have := (g2 hu0).2; omega, by rw [e8, ← hS]; exact (g2 hu0).1, rfl⟩)
        | (clear hK g1 g2 he; simp at *; omega)
        | (trace_state; fail)
    · have hd : l.drop i.toNat = [] := by rw [List.drop_eq_nil_iff]; omega
      rw [hd] at h4
      have h5 : r = lf := by rw [h4, sumC, cut, if_neg (by omega)]; omega
      clear h4 hK
      cbv
      repeat' first | with_reducible rfl | with_reducible refine And.intro ?_ ?_ | ((with_reducible intro hcc); first | (cases hcc; done) | skip) | ((with_reducible show goC _ _ _ _ _ _ _ _); cbv) | ((with_reducible show goOps _ _ _ _ _); cbv) | ((with_reducible show goD _ _ _ _ _ _); cbv) | ((with_reducible show okWr _ _ = _); rfl) | (exfalso; simp only [hA.lt, hA.sub, decide_eq_true_eq, decide_eq_false_iff_not, n_cast] at *; omega) | ((with_reducible refine hA.fin_pl _ _ _ ?_); cbv) | ((with_reducible refine hA.len _ _ _ _ _ fun z hz hb => ?_); cbv) | ((with_reducible refine hA.off _ _ _ _ fun b hb => ?_); cbv) | ((with_reducible refine hA.sapp _ _ _ ⟨?_, fun sl hsl => ?_⟩); rotate_left; cbv) | (simp only [hA.natLit, hA.natOf, hA.natCast]; cbv)
      all_goals try simp only [hA.add, hA.sub, hA.mul, hA.neg, hA.div, hA.mod, hA.mn, hA.mx, hA.eq, hA.lt, hA.le, hA.nat, hA.R, hA.lep, hA.ltp, hA.seq, inR, n_cast, Int.ofNat_eq_natCast, Option.getD_some, Option.getD_none] at *
      all_goals first
        | (rw [h5])
        | omega
        | (clear he; simp at *; omega)
        | (trace_state; fail))
theorem ok28 (ts : List Tb) (x : List (List E)) (hx : x = ts.map tbr) (left : Int) (h : 0 ≤ left ∧ left ≤ 1048576) : Plain Try.prog 28 [.agg [.e (.sl x)], .int left] (.int (cut left (cTS ts))) := okOf mixed p28 fun A P hA hP => (by
  have h65 : Plain Try.prog 72 [.e (.sl x), .int left] (.int (cut left (cTS ts))) := ok72 ts _ hx left h
  obtain ⟨u, hu⟩ : ∃ u, u = cut left (cTS ts) := ⟨_, rfl⟩
  rw [← hu] at h65 ⊢
  have hu2 : u < 0 → u = -1 := fun a => by rw [hu, cut] at a ⊢; split at a <;> split <;> omega
  clear hu
  cbv
  repeat' first | with_reducible rfl | with_reducible refine And.intro ?_ ?_ | ((with_reducible intro hcc); first | (cases hcc; done) | skip) | ((with_reducible show goC _ _ _ _ _ _ _ _); cbv) | ((with_reducible show goOps _ _ _ _ _); cbv) | ((with_reducible show goD _ _ _ _ _ _); cbv) | ((with_reducible show okWr _ _ = _); rfl) | ((with_reducible refine callK_eq hA hP ?_ ?_ ?_ (Wks.refl _) (fun _ _ => h65)); exact rfl; exact rfl; cbv) | ((with_reducible refine hA.fin_pl _ _ _ ?_); cbv) | (simp only [hA.natLit, hA.natOf, hA.natCast]; cbv)
  all_goals try simp only [hA.add, hA.sub, hA.mul, hA.neg, hA.div, hA.mod, hA.mn, hA.mx, hA.eq, hA.lt, hA.le, hA.nat, hA.R, hA.lep, hA.ltp, hA.seq, inR, n_cast, Int.ofNat_eq_natCast, Option.getD_some, Option.getD_none] at *
  all_goals first | rfl | omega | (rw [hu2 (by simp at *; omega)]) | (trace_state; fail))
set_option maxRecDepth 100000 in
theorem ok134 (n1 : List UInt8) (c1 : Int) (rs : List (List (Bool × Int))) (x : List (List E)) (hx : x = rs.map rsr) (h1 : rs.length ≤ 1048576) (h2 : ∀ r ∈ rs, r.length ≤ 1048576) : Plain Try.prog 134 [.agg [.str n1, .int c1, .e (.sl x)]] (.agg [.str n1, .int c1, .e (.sl x)]) := okOf mixed p134 fun A P hA hP => (by
  have h48 := ok18 rs x hx (by rw [hx, List.length_map]; exact h1) h2
  cbv
  repeat' first | with_reducible rfl | with_reducible refine And.intro ?_ ?_ | ((with_reducible intro hcc); first | (cases hcc; done) | skip) | ((with_reducible show goC _ _ _ _ _ _ _ _); cbv) | ((with_reducible show goOps _ _ _ _ _); cbv) | ((with_reducible show goD _ _ _ _ _ _); cbv) | ((with_reducible show okWr _ _ = _); rfl) | ((with_reducible refine callK_eq hA hP ?_ ?_ ?_ (Wks.refl _) (fun _ _ => h48)); exact rfl; exact rfl; cbv) | ((with_reducible refine hA.fin_pl _ _ _ ?_); cbv) | ((with_reducible refine hA.st _ _ _ _ _ ⟨?_, fun ds hds => ?_⟩); rotate_left; cbv) | (simp only [hA.natLit, hA.natOf, hA.natCast]; cbv)
  all_goals try simp only [hA.add, hA.sub, hA.mul, hA.neg, hA.div, hA.mod, hA.mn, hA.mx, hA.eq, hA.lt, hA.le, hA.nat, hA.R, hA.lep, hA.ltp, hA.seq, inR, n_cast, Int.ofNat_eq_natCast, Option.getD_some, Option.getD_none] at *
  )
set_option maxRecDepth 100000 in
set_option maxHeartbeats 1000000 in
theorem ok76 (l : List (Tb)) (es : List (List E)) (he : es = l.map tbr) (hlen : es.length ≤ 1048576) (hb2 : ∀ t ∈ l, t.2.2.length ≤ 1048576 ∧ ∀ r ∈ t.2.2, r.length ≤ 1048576) : Plain Try.prog 76 [.e (.sl es)] (.e (.sl es)) := okOf mixed p76 fun A P hA hP => (by
  have hl1 : es.length = l.length := by rw [he]; simp
  have hes : ∀ e ∈ es, e.length = 3 := by
    rw [he]
    intro e h
    obtain ⟨p, _, rfl⟩ := List.mem_map.1 h
    rfl
  cbv
  repeat' first | with_reducible rfl | with_reducible refine And.intro ?_ ?_ | ((with_reducible intro hcc); first | (cases hcc; done) | skip) | ((with_reducible show goC _ _ _ _ _ _ _ _); cbv) | ((with_reducible show goOps _ _ _ _ _); cbv) | ((with_reducible show goD _ _ _ _ _ _); cbv) | ((with_reducible show okWr _ _ = _); rfl) | ((with_reducible refine hA.fin_pl _ _ _ ?_); cbv) | ((with_reducible refine hA.len _ _ _ _ _ fun z hz hb => ?_); cbv) | ((with_reducible refine hA.off _ _ _ _ fun b hb => ?_); cbv) | ((with_reducible refine hA.rep _ _ _ fun ds m hds hm => ?_); cbv) | ((with_reducible refine hA.st _ _ _ _ _ ⟨?_, fun ds hds => ?_⟩); rotate_left; cbv) | ((with_reducible refine hA.alt _ _ (Or.inl ?_)); cbv) | ((with_reducible refine hA.sapp _ _ _ ⟨?_, fun sl hsl => ?_⟩); rotate_left; cbv) | (simp only [hA.natLit, hA.natOf, hA.natCast]; cbv)
  all_goals try simp only [hA.add, hA.sub, hA.mul, hA.neg, hA.div, hA.mod, hA.mn, hA.mx, hA.eq, hA.lt, hA.le, hA.nat, hA.R, hA.lep, hA.ltp, hA.seq, inR, n_cast, Int.ofNat_eq_natCast, Option.getD_some, Option.getD_none] at *
  · omega
  · omega
  · refine hA.loopI (fun n s => ∃ (i : Int) (xs : List (List E)), 0 ≤ i ∧ n + i = es.length ∧ xs.length = es.length ∧ (∀ e ∈ xs, e.length = 3) ∧ (∀ j : Nat, j < i → xs[j]? = es[j]?) ∧
        s = ⟨[(4, .int i), (3, .bs 0 0 m 3), (2, .zs), (0, .e (.sl es))], [.box (xs.flatten.map .e)]⟩) es.length _
      (Weak.keep (env' := [(4, .int 0), (3, .bs 0 0 m 3), (2, .zs), (0, .e (.sl es))]) ⟨rfl, rfl, rfl, rfl, trivial⟩)
      ⟨0, List.replicate m [E.str [], E.int 0, E.sl []], by omega, by omega, by simp; omega, by simp, fun j hj => by omega, by rw [← buf_zero, hm]; rw [hds]; rfl⟩ ?_
    rintro n s K ⟨i, xs, h0, h1, h2, h3, h4, rfl⟩ hK
    obtain ⟨ys, hys⟩ : ∃ ys, ys = xs.flatten.map D.e := ⟨_, rfl⟩
    have hyl : ys.length = xs.length * 3 := by rw [hys, List.length_map, flatten_len h3]
    rw [← hys]
    by_cases hin : (0 : Int) ≤ i ∧ i < es.length
    · obtain ⟨⟨n1, c1, rs1⟩, e1, q1⟩ := row_at he hin
      obtain ⟨x1, hx1⟩ : ∃ x, x = rs1.map rsr := ⟨_, rfl⟩
      have e1 : es.getD i.toNat [] = [E.str n1, E.int c1, E.sl x1] := e1.trans (by rw [hx1])
      have hc := ok134 n1 c1 rs1 x1 hx1 (hb2 _ (List.mem_of_getElem? q1)).1 (hb2 _ (List.mem_of_getElem? q1)).2
      have hrow0 : es[i.toNat]? = some (es.getD i.toNat []) := by
        have : i.toNat < es.length := by omega
        simp [List.getD, this]
      have hrl : (es.getD i.toNat []).length = 3 := hes _ (List.mem_of_getElem? hrow0)
      cbv
      repeat' first | with_reducible rfl | with_reducible refine And.intro ?_ ?_ | ((with_reducible intro hcc); first | (cases hcc; done) | skip) | ((with_reducible show goC _ _ _ _ _ _ _ _); cbv) | ((with_reducible show goOps _ _ _ _ _); cbv) | ((with_reducible show goD _ _ _ _ _ _); cbv) | ((with_reducible show okWr _ _ = _); rfl) | ((with_reducible refine callK_eq hA hP ?_ ?_ ?_ (Wks.refl _) (fun _ _ => hc)); exact rfl; exact rfl; cbv) | ((with_reducible refine hA.row es _ _ ⟨hin, fun row hrow => ?_⟩); rw [e1] at hrow; subst hrow; cbv) | ((with_reducible refine hA.fin_pl _ _ _ ?_); cbv) | ((with_reducible refine hA.len _ _ _ _ _ fun z hz hb => ?_); cbv) | ((with_reducible refine hA.off _ _ _ _ fun b hb => ?_); cbv) | ((with_reducible refine hA.rep _ _ _ fun ds m hds hm => ?_); cbv) | ((with_reducible refine hA.st _ _ _ _ _ ⟨?_, fun ds hds => ?_⟩); rotate_left; cbv) | ((with_reducible refine hA.alt _ _ (Or.inl ?_)); cbv) | ((with_reducible refine hA.sapp _ _ _ ⟨?_, fun sl hsl => ?_⟩); rotate_left; cbv) | (simp only [hA.natLit, hA.natOf, hA.natCast]; cbv)
      all_goals try simp only [hA.add, hA.sub, hA.mul, hA.neg, hA.div, hA.mod, hA.mn, hA.mx, hA.eq, hA.lt, hA.le, hA.nat, hA.R, hA.lep, hA.ltp, hA.seq, inR, n_cast, Int.ofNat_eq_natCast, Option.getD_some, Option.getD_none] at *
      all_goals first
        | (show _ < (m : Int); omega)
        | omega
        | (clear hK h4 he; grind; done)
        | (have hb' : b = i.toNat * 3 := by omega
           refine hK _ (n - 1) _ (by omega) (Weak.keep (env' := [(4, .int (i + 1)), (3, .bs 0 0 m 3), (2, .zs), (0, .e (.sl es))]) ⟨rfl, rfl, rfl, rfl, trivial⟩)
             ⟨i + 1, xs.set i.toNat (es.getD i.toNat []), by omega, by omega, by simp [h2], fun e h => ?_, fun j hj => ?_, ?_⟩
           · rcases List.mem_or_eq_of_mem_set h with h | rfl
             · exact h3 e h
             · exact hrl
           · by_cases hji : (j : Int) < i
             · rw [List.getElem?_set_ne (show i.toNat ≠ j by omega)]; exact h4 j hji
             · have : j = i.toNat := by omega
               subst this
               rw [List.getElem?_set_self (show i.toNat < xs.length by omega), hrow0]
           · congr 2
             rw [hds, hys, hb']
             congr 1
             have q := buf_set (k := 3) (by omega) h3 (i := i.toNat) (show i.toNat < xs.length by omega) hrl
             rw [e1] at q ⊢
             exact q)
    · have hxe : xs = es := by
        refine List.ext_getElem? fun j => ?_
        by_cases hj : (j : Int) < i
        · exact h4 j hj
        · rw [List.getElem?_eq_none (by omega), List.getElem?_eq_none (by omega)]
      cbv
      repeat' first | with_reducible rfl | with_reducible refine And.intro ?_ ?_ | ((with_reducible intro hcc); first | (cases hcc; done) | skip) | ((with_reducible show goC _ _ _ _ _ _ _ _); cbv) | ((with_reducible show goOps _ _ _ _ _); cbv) | ((with_reducible show goD _ _ _ _ _ _); cbv) | ((with_reducible show okWr _ _ = _); rfl) | (exfalso; simp only [hA.lt, hA.sub, decide_eq_true_eq, decide_eq_false_iff_not, n_cast] at *; omega) | ((with_reducible refine hA.fin_bs (es := es) ?_ ?_ hes)) | ((with_reducible refine hA.fin_pl _ _ _ ?_); cbv) | ((with_reducible refine hA.len _ _ _ _ _ fun z hz hb => ?_); cbv) | ((with_reducible refine hA.off _ _ _ _ fun b hb => ?_); cbv) | ((with_reducible refine hA.rep _ _ _ fun ds m hds hm => ?_); cbv) | ((with_reducible refine hA.st _ _ _ _ _ ⟨?_, fun ds hds => ?_⟩); rotate_left; cbv) | ((with_reducible refine hA.alt _ _ (Or.inl ?_)); cbv) | ((with_reducible refine hA.sapp _ _ _ ⟨?_, fun sl hsl => ?_⟩); rotate_left; cbv) | (simp only [hA.natLit, hA.natOf, hA.natCast]; cbv)
      all_goals try simp only [hA.add, hA.sub, hA.mul, hA.neg, hA.div, hA.mod, hA.mn, hA.mx, hA.eq, hA.lt, hA.le, hA.nat, hA.R, hA.lep, hA.ltp, hA.seq, inR, n_cast, Int.ofNat_eq_natCast, Option.getD_some, Option.getD_none] at *
      all_goals first
        | (rw [hys, hxe]; rfl)
        | omega
        | (clear hK h4 he; grind; done)
        | (trace_state; fail))
theorem ok31 (ts : List Tb) (x : List (List E)) (hx : x = ts.map tbr) (h1 : ts.length ≤ 1048576) (h2 : ∀ t ∈ ts, t.2.2.length ≤ 1048576 ∧ ∀ r ∈ t.2.2, r.length ≤ 1048576) : Plain Try.prog 31 [.agg [.e (.sl x)]] (.agg [.e (.sl x)]) := okOf mixed p31 fun A P hA hP => (by
  have h68 := ok76 ts x hx (by rw [hx, List.length_map]; exact h1) h2
  cbv
  repeat' first | with_reducible rfl | with_reducible refine And.intro ?_ ?_ | ((with_reducible intro hcc); first | (cases hcc; done) | skip) | ((with_reducible show goC _ _ _ _ _ _ _ _); cbv) | ((with_reducible show goOps _ _ _ _ _); cbv) | ((with_reducible show goD _ _ _ _ _ _); cbv) | ((with_reducible show okWr _ _ = _); rfl) | ((with_reducible refine callK_eq hA hP ?_ ?_ ?_ (Wks.refl _) (fun _ _ => h68)); exact rfl; exact rfl; cbv) | ((with_reducible refine hA.fin_pl _ _ _ ?_); cbv) | ((with_reducible refine hA.st _ _ _ _ _ ⟨?_, fun ds hds => ?_⟩); rotate_left; cbv) | (simp only [hA.natLit, hA.natOf, hA.natCast]; cbv)
  all_goals try simp only [hA.add, hA.sub, hA.mul, hA.neg, hA.div, hA.mod, hA.mn, hA.mx, hA.eq, hA.lt, hA.le, hA.nat, hA.R, hA.lep, hA.ltp, hA.seq, inR, n_cast, Int.ofNat_eq_natCast, Option.getD_some, Option.getD_none] at *
  )
set_option maxRecDepth 100000 in
theorem ok139 (n1 : List UInt8) (c1 : Int) (rs : List (List (Bool × Int))) (x : List (List E)) (hx : x = rs.map rsr) (n2 : List UInt8) (c2 : Int) (rs' : List (List (Bool × Int))) (x' : List (List E)) (hx' : x' = rs'.map rsr) :
    Plain Try.prog 139 [.agg [.str n1, .int c1, .e (.sl x)], .agg [.str n2, .int c2, .e (.sl x')]] (.bool (decide ((n1, c1, rs) = (n2, c2, rs')))) := okOf mixed p139 fun A P hA hP => (by
  have h49 := ok19 rs rs' x x' hx hx'
  obtain ⟨c, hc⟩ : ∃ c, c = decide (rs = rs') := ⟨_, rfl⟩
  rw [← hc] at h49
  obtain ⟨r, hr⟩ : ∃ r, r = decide ((n1, c1, rs) = (n2, c2, rs')) := ⟨_, rfl⟩
  rw [← hr]
  have hr2 : r = (decide (n1 = n2) && decide (c1 = c2) && c) := by rw [hr, hc]; by_cases a : n1 = n2 <;> by_cases b : c1 = c2 <;> simp [a, b]
  clear hr hc
  cbv
  repeat' first | with_reducible rfl | with_reducible refine And.intro ?_ ?_ | ((with_reducible intro hcc); first | (cases hcc; done) | skip) | ((with_reducible show goC _ _ _ _ _ _ _ _); cbv) | ((with_reducible show goOps _ _ _ _ _); cbv) | ((with_reducible show goD _ _ _ _ _ _); cbv) | ((with_reducible show okWr _ _ = _); rfl) | ((with_reducible refine callK_eq hA hP ?_ ?_ ?_ (Wks.refl _) (fun _ _ => h49)); exact rfl; exact rfl; cbv) | ((with_reducible refine hA.fin_pl _ _ _ ?_); cbv) | (simp only [hA.natLit, hA.natOf, hA.natCast]; cbv)
  all_goals try simp only [hA.add, hA.sub, hA.mul, hA.neg, hA.div, hA.mod, hA.mn, hA.mx, hA.eq, hA.lt, hA.le, hA.nat, hA.R, hA.lep, hA.ltp, hA.seq, inR, n_cast, Int.ofNat_eq_natCast, Option.getD_some, Option.getD_none] at *
  all_goals first | rfl | (clear h49; grind; done) | (clear h49; simp at *; grind; done) | (trace_state; fail))
set_option maxRecDepth 100000 in
theorem ok79 (l l' : List (Tb)) (es fs : List (List E)) (he : es = l.map tbr) (hf : fs = l'.map tbr) : Plain Try.prog 79 [.e (.sl es), .e (.sl fs)] (.bool (decide (l = l'))) := okOf mixed p79 fun A P hA hP => (by
  obtain ⟨r, hr⟩ : ∃ r : Bool, r = decide (l = l') := ⟨_, rfl⟩
  rw [← hr]
  have hl1 : es.length = l.length := by rw [he]; simp
  have hl2 : fs.length = l'.length := by rw [hf]; simp
  cbv
  repeat' first | with_reducible rfl | with_reducible refine And.intro ?_ ?_ | ((with_reducible intro hcc); first | (cases hcc; done) | skip) | ((with_reducible show goC _ _ _ _ _ _ _ _); cbv) | ((with_reducible show goOps _ _ _ _ _); cbv) | ((with_reducible show goD _ _ _ _ _ _); cbv) | ((with_reducible show okWr _ _ = _); rfl) | ((with_reducible refine hA.fin_pl _ _ _ ?_); cbv) | ((with_reducible refine hA.len _ _ _ _ _ fun z hz hb => ?_); cbv) | ((with_reducible refine hA.off _ _ _ _ fun b hb => ?_); cbv) | ((with_reducible refine hA.sapp _ _ _ ⟨?_, fun sl hsl => ?_⟩); rotate_left; cbv) | (simp only [hA.natLit, hA.natOf, hA.natCast]; cbv)
  all_goals try simp only [hA.add, hA.sub, hA.mul, hA.neg, hA.div, hA.mod, hA.mn, hA.mx, hA.eq, hA.lt, hA.le, hA.nat, hA.R, hA.lep, hA.ltp, hA.seq, inR, n_cast, Int.ofNat_eq_natCast, Option.getD_some, Option.getD_none] at *
  · have : l ≠ l' := fun e => by subst e; clear hr; grind
    rw [hr]; simp [this]
  · have hzz : es.length = fs.length := by clear hr; grind
    refine hA.loopI (fun n s => ∃ i : Int, 0 ≤ i ∧ n + i = l.length ∧ (∀ j : Nat, j < i → l[j]? = l'[j]?) ∧ s = ⟨[(5, .int i), (4, .bool false), (0, .e (.sl es)), (1, .e (.sl fs))], []⟩) l.length _ (Weak.keep (env' := [(5, .int 0), (4, .bool false), (0, .e (.sl es)), (1, .e (.sl fs))]) ⟨rfl, rfl, rfl, rfl, trivial⟩) ⟨0, by omega, by omega, fun j hj => by omega, rfl⟩ ?_
    rintro n s K ⟨i, h0, h1, h2, rfl⟩ hK
    by_cases hin : (0 : Int) ≤ i ∧ i < es.length
    · have hin2 : (0 : Int) ≤ i ∧ i < fs.length := by omega
      obtain ⟨⟨n1, c1, rs1⟩, e1, q1⟩ := row_at he hin
      obtain ⟨⟨n2, c2, rs2⟩, e2, q2⟩ := row_at hf hin2
      obtain ⟨x1, hx1⟩ : ∃ x, x = rs1.map rsr := ⟨_, rfl⟩
      have e1 : es.getD i.toNat [] = [E.str n1, E.int c1, E.sl x1] := e1.trans (by rw [hx1])
      obtain ⟨x2, hx2⟩ : ∃ x, x = rs2.map rsr := ⟨_, rfl⟩
      have e2 : fs.getD i.toNat [] = [E.str n2, E.int c2, E.sl x2] := e2.trans (by rw [hx2])
      have hc := ok139 n1 c1 rs1 x1 hx1 n2 c2 rs2 x2 hx2
      obtain ⟨c, hcc⟩ : ∃ c : Bool, c = decide (((n1, c1, rs1) : Tb) = (n2, c2, rs2)) := ⟨_, rfl⟩
      rw [← hcc] at hc
      have c1 : c = false → r = false := fun e => by
        rw [hr, decide_eq_false_iff_not]
        intro e'
        subst e'
        rw [q1] at q2
        cases q2
        rw [e] at hcc
        simp at hcc
      have c2 : c = true → l[i.toNat]? = l'[i.toNat]? := fun e => by
        rw [e] at hcc
        rw [q1, q2, of_decide_eq_true hcc.symm]
      clear hcc hr
      cbv
      repeat' first | with_reducible rfl | with_reducible refine And.intro ?_ ?_ | ((with_reducible intro hcc); first | (cases hcc; done) | skip) | ((with_reducible show goC _ _ _ _ _ _ _ _); cbv) | ((with_reducible show goOps _ _ _ _ _); cbv) | ((with_reducible show goD _ _ _ _ _ _); cbv) | ((with_reducible show okWr _ _ = _); rfl) | ((with_reducible refine callK_eq hA hP ?_ ?_ ?_ (Wks.refl _) (fun _ _ => hc)); exact rfl; exact rfl; cbv) | ((with_reducible refine hA.row es _ _ ⟨hin, fun row hrow => ?_⟩); rw [e1] at hrow; subst hrow; cbv) | ((with_reducible refine hA.row fs _ _ ⟨hin2, fun row hrow => ?_⟩); rw [e2] at hrow; subst hrow; cbv) | ((with_reducible refine hA.fin_pl _ _ _ ?_); cbv) | ((with_reducible refine hA.len _ _ _ _ _ fun z hz hb => ?_); cbv) | ((with_reducible refine hA.off _ _ _ _ fun b hb => ?_); cbv) | ((with_reducible refine hA.sapp _ _ _ ⟨?_, fun sl hsl => ?_⟩); rotate_left; cbv) | (simp only [hA.natLit, hA.natOf, hA.natCast]; cbv)
      all_goals try simp only [hA.add, hA.sub, hA.mul, hA.neg, hA.div, hA.mod, hA.mn, hA.mx, hA.eq, hA.lt, hA.le, hA.nat, hA.R, hA.lep, hA.ltp, hA.seq, inR, n_cast, Int.ofNat_eq_natCast, Option.getD_some, Option.getD_none] at *
      all_goals first
        | omega
        | (refine hK _ (n - 1) _ (by omega) (Weak.gc (env' := [(5, .int (i + 1)), (4, .bool false), (0, .e (.sl es)), (1, .e (.sl fs))]) ⟨rfl, rfl, rfl, rfl, trivial⟩ rfl) ⟨i + 1, by omega, by omega, fun j hj => ?_, rfl⟩
           by_cases hji : (j : Int) < i
           · exact h2 j hji
           · have : j = i.toNat := by omega
             rw [this]
             exact c2 (by clear hK h2; grind))
        | (clear hK h2 he hf e1 e2; grind; done)
        | (trace_state; fail)
    · have hll : l = l' := by
        refine List.ext_getElem? fun j => ?_
        by_cases hj : (j : Int) < i
        · exact h2 j hj
        · rw [List.getElem?_eq_none (by omega), List.getElem?_eq_none (by omega)]
      have hr2 : r = true := by rw [hr, hll]; simp
      clear hr
      cbv
      repeat' first | with_reducible rfl | with_reducible refine And.intro ?_ ?_ | ((with_reducible intro hcc); first | (cases hcc; done) | skip) | ((with_reducible show goC _ _ _ _ _ _ _ _); cbv) | ((with_reducible show goOps _ _ _ _ _); cbv) | ((with_reducible show goD _ _ _ _ _ _); cbv) | ((with_reducible show okWr _ _ = _); rfl) | (exfalso; simp only [hA.lt, hA.sub, decide_eq_true_eq, decide_eq_false_iff_not, n_cast] at *; omega) | ((with_reducible refine hA.fin_pl _ _ _ ?_); cbv) | ((with_reducible refine hA.len _ _ _ _ _ fun z hz hb => ?_); cbv) | ((with_reducible refine hA.off _ _ _ _ fun b hb => ?_); cbv) | ((with_reducible refine hA.sapp _ _ _ ⟨?_, fun sl hsl => ?_⟩); rotate_left; cbv) | (simp only [hA.natLit, hA.natOf, hA.natCast]; cbv)
      all_goals try simp only [hA.add, hA.sub, hA.mul, hA.neg, hA.div, hA.mod, hA.mn, hA.mx, hA.eq, hA.lt, hA.le, hA.nat, hA.R, hA.lep, hA.ltp, hA.seq, inR, n_cast, Int.ofNat_eq_natCast, Option.getD_some, Option.getD_none] at *
      all_goals first
        | (rw [hr2])
        | omega
        | (clear hK h2 hll he hf; grind; done)
        | (trace_state; fail))
theorem ok34 (ts ts' : List Tb) (x x' : List (List E)) (hx : x = ts.map tbr) (hx' : x' = ts'.map tbr) : Plain Try.prog 34 [.agg [.e (.sl x)], .agg [.e (.sl x')]] (.bool (decide (ts = ts'))) := okOf mixed p34 fun A P hA hP => (by
  have h70 := ok79 ts ts' x x' hx hx'
  obtain ⟨c, hc⟩ : ∃ c, c = decide (ts = ts') := ⟨_, rfl⟩
  rw [← hc] at h70 ⊢
  cbv
  repeat' first | with_reducible rfl | with_reducible refine And.intro ?_ ?_ | ((with_reducible intro hcc); first | (cases hcc; done) | skip) | ((with_reducible show goC _ _ _ _ _ _ _ _); cbv) | ((with_reducible show goOps _ _ _ _ _); cbv) | ((with_reducible show goD _ _ _ _ _ _); cbv) | ((with_reducible show okWr _ _ = _); rfl) | ((with_reducible refine callK_eq hA hP ?_ ?_ ?_ (Wks.refl _) (fun _ _ => h70)); exact rfl; exact rfl; cbv) | ((with_reducible refine hA.fin_pl _ _ _ ?_); cbv) | (simp only [hA.natLit, hA.natOf, hA.natCast]; cbv)
  all_goals try simp only [hA.add, hA.sub, hA.mul, hA.neg, hA.div, hA.mod, hA.mn, hA.mx, hA.eq, hA.lt, hA.le, hA.nat, hA.R, hA.lep, hA.ltp, hA.seq, inR, n_cast, Int.ofNat_eq_natCast, Option.getD_some, Option.getD_none] at *
  all_goals first | rfl | (clear h70 hc; grind; done) | (trace_state; fail))
end Go.Proofs.Ytfplalbognalkaa.Ab
/- Names: letters, digits, words, keys. -/
namespace Go.Proofs.Ytfplalbognalkaa.Ab
open Go
theorem ok192 (c : Int) : Plain Try.prog 192 [.u8 c] (.bool (isLet c)) := okOf mixed p192 fun A P hA hP => (by
  obtain ⟨r, hr⟩ : ∃ r, r = isLet c := ⟨_, rfl⟩
  rw [← hr]
  cbv
  repeat' first | with_reducible rfl | with_reducible refine And.intro ?_ ?_ | ((with_reducible intro hcc); first | (cases hcc; done) | skip) | ((with_reducible show goC _ _ _ _ _ _ _ _); cbv) | ((with_reducible show goOps _ _ _ _ _); cbv) | ((with_reducible show goD _ _ _ _ _ _); cbv) | ((with_reducible show okWr _ _ = _); rfl) | ((with_reducible refine hA.fin_pl _ _ _ ?_); cbv) | ((with_reducible refine hA.gb0 true _ ?_); cbv) | ((with_reducible refine hA.gb0 false _ ?_); cbv) | ((with_reducible refine hA.gb _ _ fun vb hvb => ?_); cbv) | (simp only [hA.natLit, hA.natOf, hA.natCast]; cbv)
  all_goals try simp only [hA.add, hA.sub, hA.mul, hA.neg, hA.div, hA.mod, hA.mn, hA.mx, hA.eq, hA.lt, hA.le, hA.nat, hA.R, hA.lep, hA.ltp, hA.seq, inR, n_cast, Int.ofNat_eq_natCast, Option.getD_some, Option.getD_none] at *
  all_goals (unfold isLet at hr; first | (subst hr; grind; done) | (subst hr; simp at *; grind; done) | (subst hr; congr; by_cases a : 97 ≤ c <;> by_cases b : 65 ≤ c <;> simp [a, b] <;> grind)))
theorem ok166 (c : Int) : Plain Try.prog 166 [.u8 c] (.bool (isLet c)) := okOf mixed p166 fun A P hA hP => (by
  obtain ⟨r, hr⟩ : ∃ r, r = isLet c := ⟨_, rfl⟩
  rw [← hr]
  cbv
  repeat' first | with_reducible rfl | with_reducible refine And.intro ?_ ?_ | ((with_reducible intro hcc); first | (cases hcc; done) | skip) | ((with_reducible show goC _ _ _ _ _ _ _ _); cbv) | ((with_reducible show goOps _ _ _ _ _); cbv) | ((with_reducible show goD _ _ _ _ _ _); cbv) | ((with_reducible show okWr _ _ = _); rfl) | ((with_reducible refine hA.fin_pl _ _ _ ?_); cbv) | ((with_reducible refine hA.gb0 true _ ?_); cbv) | ((with_reducible refine hA.gb0 false _ ?_); cbv) | ((with_reducible refine hA.gb _ _ fun vb hvb => ?_); cbv) | (simp only [hA.natLit, hA.natOf, hA.natCast]; cbv)
  all_goals try simp only [hA.add, hA.sub, hA.mul, hA.neg, hA.div, hA.mod, hA.mn, hA.mx, hA.eq, hA.lt, hA.le, hA.nat, hA.R, hA.lep, hA.ltp, hA.seq, inR, n_cast, Int.ofNat_eq_natCast, Option.getD_some, Option.getD_none] at *
  all_goals (unfold isLet at hr; first | (subst hr; grind; done) | (subst hr; simp at *; grind; done) | (subst hr; congr; by_cases a : 97 ≤ c <;> by_cases b : 65 ≤ c <;> simp [a, b] <;> grind)))
theorem ok193 (c : Int) : Plain Try.prog 193 [.u8 c] (.bool (isDig c)) := okOf mixed p193 fun A P hA hP => (by
  obtain ⟨r, hr⟩ : ∃ r, r = isDig c := ⟨_, rfl⟩
  rw [← hr]
  cbv
  repeat' first | with_reducible rfl | with_reducible refine And.intro ?_ ?_ | ((with_reducible intro hcc); first | (cases hcc; done) | skip) | ((with_reducible show goC _ _ _ _ _ _ _ _); cbv) | ((with_reducible show goOps _ _ _ _ _); cbv) | ((with_reducible show goD _ _ _ _ _ _); cbv) | ((with_reducible show okWr _ _ = _); rfl) | ((with_reducible refine hA.fin_pl _ _ _ ?_); cbv) | ((with_reducible refine hA.gb0 true _ ?_); cbv) | ((with_reducible refine hA.gb0 false _ ?_); cbv) | ((with_reducible refine hA.gb _ _ fun vb hvb => ?_); cbv) | (simp only [hA.natLit, hA.natOf, hA.natCast]; cbv)
  all_goals try simp only [hA.add, hA.sub, hA.mul, hA.neg, hA.div, hA.mod, hA.mn, hA.mx, hA.eq, hA.lt, hA.le, hA.nat, hA.R, hA.lep, hA.ltp, hA.seq, inR, n_cast, Int.ofNat_eq_natCast, Option.getD_some, Option.getD_none] at *
  all_goals (unfold isDig at hr; first | (subst hr; grind; done) | (subst hr; simp at *; grind; done) | (subst hr; congr; by_cases a : 97 ≤ c <;> by_cases b : 65 ≤ c <;> simp [a, b] <;> grind)))
theorem ok168 (c : Int) : Plain Try.prog 168 [.u8 c] (.bool (isDig c)) := okOf mixed p168 fun A P hA hP => (by
  obtain ⟨r, hr⟩ : ∃ r, r = isDig c := ⟨_, rfl⟩
  rw [← hr]
  cbv
  repeat' first | with_reducible rfl | with_reducible refine And.intro ?_ ?_ | ((with_reducible intro hcc); first | (cases hcc; done) | skip) | ((with_reducible show goC _ _ _ _ _ _ _ _); cbv) | ((with_reducible show goOps _ _ _ _ _); cbv) | ((with_reducible show goD _ _ _ _ _ _); cbv) | ((with_reducible show okWr _ _ = _); rfl) | ((with_reducible refine hA.fin_pl _ _ _ ?_); cbv) | ((with_reducible refine hA.gb0 true _ ?_); cbv) | ((with_reducible refine hA.gb0 false _ ?_); cbv) | ((with_reducible refine hA.gb _ _ fun vb hvb => ?_); cbv) | (simp only [hA.natLit, hA.natOf, hA.natCast]; cbv)
  all_goals try simp only [hA.add, hA.sub, hA.mul, hA.neg, hA.div, hA.mod, hA.mn, hA.mx, hA.eq, hA.lt, hA.le, hA.nat, hA.R, hA.lep, hA.ltp, hA.seq, inR, n_cast, Int.ofNat_eq_natCast, Option.getD_some, Option.getD_none] at *
  all_goals (unfold isDig at hr; first | (subst hr; grind; done) | (subst hr; simp at *; grind; done) | (subst hr; congr; by_cases a : 97 ≤ c <;> by_cases b : 65 ≤ c <;> simp [a, b] <;> grind)))
set_option maxRecDepth 100000 in
set_option maxHeartbeats 4000000 in
theorem ok164 (s : List UInt8) : Plain Try.prog 164 [.str s] (.bool (keyB s)) := okOf mixed p164 fun A P hA hP => (by
  obtain ⟨r, hr⟩ : ∃ r, r = keyB s := ⟨_, rfl⟩
  rw [← hr]
  cbv
  repeat' first | with_reducible rfl | with_reducible refine And.intro ?_ ?_ | ((with_reducible intro hcc); first | (cases hcc; done) | skip) | ((with_reducible show goC _ _ _ _ _ _ _ _); cbv) | ((with_reducible show goOps _ _ _ _ _); cbv) | ((with_reducible show goD _ _ _ _ _ _); cbv) | ((with_reducible show okWr _ _ = _); rfl) | ((with_reducible refine hA.fin_pl _ _ _ ?_); cbv) | ((with_reducible refine hA.gb0 true _ ?_); cbv) | ((with_reducible refine hA.gb0 false _ ?_); cbv) | ((with_reducible refine hA.gb _ _ fun vb hvb => ?_); cbv) | (simp only [hA.natLit, hA.natOf, hA.natCast]; cbv)
  all_goals try simp only [hA.add, hA.sub, hA.mul, hA.neg, hA.div, hA.mod, hA.mn, hA.mx, hA.eq, hA.lt, hA.le, hA.nat, hA.R, hA.lep, hA.ltp, hA.seq, inR, n_cast, Int.ofNat_eq_natCast, Option.getD_some, Option.getD_none] at *
  all_goals try (clear hr; grind; done)
  all_goals
    rw [hr]
    congr 3
    rw [Bool.eq_iff_iff]
    subst_vars
    first
      | (simp only [Bool.if_true_left, Bool.or_eq_true, decide_eq_true_eq, keyB, or_assoc]; done)
      | (simp_all [keyB]; done))
set_option maxRecDepth 100000 in
set_option maxHeartbeats 4000000 in
theorem ok167 (s : List UInt8) : Plain Try.prog 167 [.str s] (.bool (keyB s)) := okOf mixed p167 fun A P hA hP => (by
  obtain ⟨r, hr⟩ : ∃ r, r = keyB s := ⟨_, rfl⟩
  rw [← hr]
  cbv
  repeat' first | with_reducible rfl | with_reducible refine And.intro ?_ ?_ | ((with_reducible intro hcc); first | (cases hcc; done) | skip) | ((with_reducible show goC _ _ _ _ _ _ _ _); cbv) | ((with_reducible show goOps _ _ _ _ _); cbv) | ((with_reducible show goD _ _ _ _ _ _); cbv) | ((with_reducible show okWr _ _ = _); rfl) | ((with_reducible refine hA.fin_pl _ _ _ ?_); cbv) | (simp only [hA.natLit, hA.natOf, hA.natCast]; cbv)
  all_goals try simp only [hA.add, hA.sub, hA.mul, hA.neg, hA.div, hA.mod, hA.mn, hA.mx, hA.eq, hA.lt, hA.le, hA.nat, hA.R, hA.lep, hA.ltp, hA.seq, inR, n_cast, Int.ofNat_eq_natCast, Option.getD_some, Option.getD_none] at *
  all_goals try (clear hr; grind; done)
  all_goals
    rw [hr]
    congr 3
    rw [Bool.eq_iff_iff]
    subst_vars
    first
      | (simp only [Bool.if_true_left, Bool.or_eq_true, decide_eq_true_eq, keyB, or_assoc]; done)
      | (simp_all [keyB]; done))
end Go.Proofs.Ytfplalbognalkaa.Ab
/- The code of functions, in the small language. -/
namespace Go.Proofs.Ytfplalbognalkaa.Ab
open Go
def c172 : F := ⟨12, [(.tmp 4)], (.seq (.reg [⟨(some 4), none, (.mov (.c (.int 0)))⟩]) (.seq (.reg [⟨(some 5), none, (.mov (.s 1))⟩, ⟨(some 6), none, (.mov (.s 0))⟩, ⟨(some 7), none, (.lenl (.s 6))⟩, ⟨(some 8), none, (.bin .sub (.s 5) (.s 7))⟩, ⟨(some 1), none, (.mov (.s 8))⟩]) (.seq (.seq (.reg [⟨(some 9), none, (.mov (.s 1))⟩, ⟨(some 10), none, (.bin .lss (.s 9) (.c (.int 0)))⟩]) (.cond (.s 10) (.seq (.reg [⟨(some 4), none, (.mov (.c (.int (-1))))⟩]) .ret) .skip)) (.seq (.reg [⟨(some 11), none, (.mov (.s 1))⟩, ⟨(some 4), none, (.mov (.s 11))⟩]) .ret))))⟩
theorem p172 : prepF Try.prog 172 = some c172 := by kernel_rfl
def c144 : F := ⟨26, [(.tmp 4)], (.seq (.reg [⟨(some 4), none, (.mov (.c (.bool false)))⟩]) (.seq (.reg [⟨(some 5), none, (.mov (.s 1))⟩, ⟨(some 6), none, (.bin .geq (.s 5) (.c (.int 0)))⟩, ⟨(some 7), none, (.mov (.s 6))⟩, ⟨(some 8), (some (7, true)), (.mov (.s 0))⟩, ⟨(some 9), (some (7, true)), (.lenl (.s 8))⟩, ⟨(some 10), (some (7, true)), (.bin .geq (.s 9) (.c (.int 1)))⟩, ⟨(some 11), none, (.pick (.s 7) (.s 10) (.c (.bool false)))⟩, ⟨(some 12), none, (.mov (.s 11))⟩, ⟨(some 13), (some (12, true)), (.mov (.s 0))⟩, ⟨(some 14), (some (12, true)), (.lenl (.s 13))⟩, ⟨(some 15), (some (12, true)), (.bin .leq (.s 14) (.c (.int 5000)))⟩, ⟨(some 16), none, (.pick (.s 12) (.s 15) (.c (.bool false)))⟩, ⟨(some 17), none, (.mov (.s 16))⟩, ⟨(some 18), (some (17, true)), (.mov (.s 0))⟩, ⟨(some 19), (some (17, true)), (.mov (.s 0))⟩, ⟨(some 20), (some (17, true)), (.lenl (.s 19))⟩, ⟨(some 21), (some (17, true)), (.bin .sub (.s 20) (.c (.int 1)))⟩, ⟨(some 22), (some (17, true)), (.mov (.s 1))⟩, ⟨(some 23), (some (17, true)), (.call 186 [(.s 18), (.s 21), (.s 22)])⟩, ⟨(some 24), (some (17, true)), (.bin .eql (.s 23) (.c (.int 0)))⟩, ⟨(some 25), none, (.pick (.s 17) (.s 24) (.c (.bool false)))⟩, ⟨(some 4), none, (.mov (.s 25))⟩]) .ret))⟩
theorem p144 : prepF Try.prog 144 = some c144 := by kernel_rfl
def c176 : F := ⟨23, [(.tmp 2)], (.seq (.reg [⟨(some 2), none, (.mov (.c .zs))⟩]) (.seq (.reg [⟨(some 5), none, (.mov (.s 0))⟩, ⟨(some 6), none, (.lenl (.s 5))⟩, ⟨(some 7), none, (.mks [(.int 0), (.int 0)] (.s 6))⟩, ⟨(some 3), none, (.mov (.s 7))⟩]) (.seq (.seq (.reg [⟨(some 4), none, (.mov (.c (.int 0)))⟩]) (.block 0 (.loop (.seq (.seq (.reg [⟨(some 8), none, (.mov (.s 4))⟩, ⟨(some 9), none, (.mov (.s 0))⟩, ⟨(some 10), none, (.lenl (.s 9))⟩, ⟨(some 11), none, (.bin .lss (.s 8) (.s 10))⟩]) (.cond (.s 11) .skip (.exit 0))) (.seq (.block 1 (.reg [⟨(some 14), none, (.mov (.s 3))⟩, ⟨(some 15), none, (.mov (.s 4))⟩, ⟨(some 16), none, (.mov (.s 0))⟩, ⟨(some 17), none, (.mov (.s 4))⟩, ⟨(some 18), none, (.iadr none 2 (.s 16) (.s 17))⟩, ⟨(some 19), none, (.load true 2 (.s 18))⟩, ⟨(some 20), none, (.call 195 [(.s 19)])⟩, ⟨(some 21), none, (.iadr none 2 (.s 14) (.s 15))⟩, ⟨none, none, (.store true 2 (.s 21) (.s 20))⟩])) (.reg [⟨(some 12), none, (.mov (.s 4))⟩, ⟨(some 13), none, (.bin .add (.s 12) (.c (.int 1)))⟩, ⟨(some 4), none, (.mov (.s 13))⟩])))))) (.seq (.reg [⟨(some 22), none, (.mov (.s 3))⟩, ⟨(some 2), none, (.mov (.s 22))⟩]) .ret))))⟩
theorem p176 : prepF Try.prog 176 = some c176 := by kernel_rfl
def c181 : F := ⟨78, [(.tmp 4)], (.seq (.reg [⟨(some 4), none, (.mov (.c (.bool false)))⟩]) (.seq (.seq (.reg [⟨(some 9), none, (.mov (.s 0))⟩, ⟨(some 10), none, (.lenl (.s 9))⟩, ⟨(some 11), none, (.bin .gtr (.s 10) (.c (.int 5000)))⟩, ⟨(some 12), none, (.mov (.s 11))⟩, ⟨(some 13), (some (12, false)), (.mov (.s 1))⟩, ⟨(some 14), (some (12, false)), (.bin .lss (.s 13) (.c (.int 0)))⟩, ⟨(some 15), none, (.pick (.s 12) (.c (.bool true)) (.s 14))⟩]) (.cond (.s 15) (.seq (.reg [⟨(some 4), none, (.mov (.c (.bool false)))⟩]) .ret) .skip)) (.seq (.reg [⟨(some 5), none, (.mov (.c (.int 0)))⟩]) (.seq (.seq (.reg [⟨(some 16), none, (.mov (.s 0))⟩, ⟨(some 17), none, (.lenl (.s 16))⟩, ⟨(some 18), none, (.mov (.c (.int 0)))⟩]) (.block 0 (.loop (.seq (.reg [⟨(some 19), none, (.bin .lss (.s 18) (.s 17))⟩]) (.seq (.cond (.s 19) .skip (.exit 0)) (.seq (.block 1 (.seq (.reg [⟨(some 20), none, (.iadr none 2 (.s 16) (.s 18))⟩, ⟨(some 21), none, (.load true 2 (.s 20))⟩, ⟨(some 7), none, (.alloc [(.int 0), (.int 0)])⟩, ⟨none, none, (.store true 2 (.s 7) (.s 21))⟩]) (.seq (.reg [⟨(some 8), none, (.mov (.c (.int 0)))⟩]) (.seq (.seq (.reg [⟨(some 22), none, (.fadr 0 (.s 7))⟩, ⟨(some 23), none, (.load false 1 (.s 22))⟩]) (.block 2 (.seq (.reg [⟨(some 25), none, (.bin .eql (.s 23) (.c (.int 1)))⟩, ⟨(some 24), none, (.mov (.s 25))⟩]) (.cond (.s 24) .skip (.seq (.reg [⟨(some 27), none, (.bin .eql (.s 23) (.c (.int 2)))⟩, ⟨(some 26), none, (.mov (.s 27))⟩]) (.cond (.s 26) (.seq (.reg [⟨(some 28), none, (.fadr 1 (.s 7))⟩, ⟨(some 29), none, (.load false 1 (.s 28))⟩, ⟨(some 30), none, (.bin .neq (.s 29) (.c (.int 0)))⟩]) (.cond (.s 30) (.seq (.reg [⟨(some 4), none, (.mov (.c (.bool false)))⟩]) .ret) .skip)) (.seq (.reg [⟨(some 32), none, (.bin .eql (.s 23) (.c (.int 3)))⟩, ⟨(some 31), none, (.mov (.s 32))⟩]) (.cond (.s 31) (.seq (.reg [⟨(some 33), none, (.fadr 1 (.s 7))⟩, ⟨(some 34), none, (.load false 1 (.s 33))⟩, ⟨(some 35), none, (.bin .lss (.s 34) (.c (.int 0)))⟩, ⟨(some 36), none, (.mov (.s 35))⟩, ⟨(some 37), (some (36, false)), (.fadr 1 (.s 7))⟩, ⟨(some 38), (some (36, false)), (.load false 1 (.s 37))⟩, ⟨(some 39), (some (36, false)), (.mov (.s 1))⟩, ⟨(some 40), (some (36, false)), (.bin .geq (.s 38) (.s 39))⟩, ⟨(some 41), none, (.pick (.s 36) (.c (.bool true)) (.s 40))⟩]) (.cond (.s 41) (.seq (.reg [⟨(some 4), none, (.mov (.c (.bool false)))⟩]) .ret) .skip)) (.seq (.reg [⟨(some 43), none, (.bin .eql (.s 23) (.c (.int 4)))⟩, ⟨(some 42), none, (.mov (.s 43))⟩]) (.cond (.s 42) (.seq (.reg [⟨(some 8), none, (.mov (.c (.int 2)))⟩]) (.seq (.reg [⟨(some 44), none, (.fadr 1 (.s 7))⟩, ⟨(some 45), none, (.load false 1 (.s 44))⟩, ⟨(some 46), none, (.bin .lss (.s 45) (.c (.int 1)))⟩, ⟨(some 47), none, (.mov (.s 46))⟩, ⟨(some 48), (some (47, false)), (.fadr 1 (.s 7))⟩, ⟨(some 49), (some (47, false)), (.load false 1 (.s 48))⟩, ⟨(some 50), (some (47, false)), (.bin .gtr (.s 49) (.c (.int 6)))⟩, ⟨(some 51), none, (.pick (.s 47) (.c (.bool true)) (.s 50))⟩]) (.cond (.s 51) (.seq (.reg [⟨(some 4), none, (.mov (.c (.bool false)))⟩]) .ret) .skip))) (.seq (.seq (.reg [⟨(some 53), none, (.bin .eql (.s 23) (.c (.int 5)))⟩, ⟨(some 52), none, (.mov (.s 53))⟩]) (.cond (.s 52) .skip (.reg [⟨(some 54), none, (.bin .eql (.s 23) (.c (.int 6)))⟩, ⟨(some 52), none, (.mov (.s 54))⟩]))) (.cond (.s 52) (.reg [⟨(some 8), none, (.mov (.c (.int 2)))⟩]) (.seq (.seq (.reg [⟨(some 56), none, (.bin .eql (.s 23) (.c (.int 7)))⟩, ⟨(some 55), none, (.mov (.s 56))⟩]) (.cond (.s 55) .skip (.reg [⟨(some 57), none, (.bin .eql (.s 23) (.c (.int 8)))⟩, ⟨(some 55), none, (.mov (.s 57))⟩]))) (.cond (.s 55) (.reg [⟨(some 8), none, (.mov (.c (.int 1)))⟩]) (.seq (.reg [⟨(some 4), none, (.mov (.c (.bool false)))⟩]) .ret))))))))))))))) (.seq (.seq (.reg [⟨(some 58), none, (.fadr 0 (.s 7))⟩, ⟨(some 59), none, (.load false 1 (.s 58))⟩, ⟨(some 60), none, (.bin .gtr (.s 59) (.c (.int 4)))⟩, ⟨(some 61), none, (.mov (.s 60))⟩, ⟨(some 62), (some (61, true)), (.fadr 1 (.s 7))⟩, ⟨(some 63), (some (61, true)), (.load false 1 (.s 62))⟩, ⟨(some 64), (some (61, true)), (.bin .neq (.s 63) (.c (.int 0)))⟩, ⟨(some 65), none, (.pick (.s 61) (.s 64) (.c (.bool false)))⟩, ⟨(some 66), none, (.mov (.s 65))⟩, ⟨(some 67), (some (66, false)), (.mov (.s 5))⟩, ⟨(some 68), (some (66, false)), (.mov (.s 8))⟩, ⟨(some 69), (some (66, false)), (.bin .lss (.s 67) (.s 68))⟩, ⟨(some 70), none, (.pick (.s 66) (.c (.bool true)) (.s 69))⟩]) (.cond (.s 70) (.seq (.reg [⟨(some 4), none, (.mov (.c (.bool false)))⟩]) .ret) .skip)) (.reg [⟨(some 71), none, (.mov (.s 5))⟩, ⟨(some 72), none, (.mov (.s 8))⟩, ⟨(some 73), none, (.bin .sub (.c (.int 1)) (.s 72))⟩, ⟨(some 74), none, (.bin .add (.s 71) (.s 73))⟩, ⟨(some 5), none, (.mov (.s 74))⟩])))))) (.reg [⟨(some 75), none, (.bin .add (.s 18) (.c (.int 1)))⟩, ⟨(some 18), none, (.mov (.s 75))⟩]))))))) (.seq (.reg [⟨(some 76), none, (.mov (.s 5))⟩, ⟨(some 77), none, (.bin .eql (.s 76) (.c (.int 1)))⟩, ⟨(some 4), none, (.mov (.s 77))⟩]) .ret)))))⟩
theorem p181 : prepF Try.prog 181 = some c181 := by kernel_rfl
def c184 : F := ⟨27, [(.tmp 4)], (.seq (.reg [⟨(some 4), none, (.mov (.c (.bool false)))⟩]) (.seq (.seq (.reg [⟨(some 6), none, (.mov (.s 0))⟩, ⟨(some 7), none, (.lenl (.s 6))⟩, ⟨(some 8), none, (.mov (.s 1))⟩, ⟨(some 9), none, (.lenl (.s 8))⟩, ⟨(some 10), none, (.bin .neq (.s 7) (.s 9))⟩]) (.cond (.s 10) (.seq (.reg [⟨(some 4), none, (.mov (.c (.bool false)))⟩]) .ret) .skip)) (.seq (.seq (.reg [⟨(some 5), none, (.mov (.c (.int 0)))⟩]) (.block 0 (.loop (.seq (.seq (.reg [⟨(some 11), none, (.mov (.s 5))⟩, ⟨(some 12), none, (.mov (.s 0))⟩, ⟨(some 13), none, (.lenl (.s 12))⟩, ⟨(some 14), none, (.bin .lss (.s 11) (.s 13))⟩]) (.cond (.s 14) .skip (.exit 0))) (.seq (.block 1 (.seq (.dreg [⟨⟨(some 17), none, (.mov (.s 0))⟩, [], [0]⟩, ⟨⟨(some 18), none, (.mov (.s 5))⟩, [0], [5]⟩, ⟨⟨(some 19), none, (.iadr none 2 (.s 17) (.s 18))⟩, [], [17, 18]⟩, ⟨⟨(some 20), none, (.load true 2 (.s 19))⟩, [], [19]⟩, ⟨⟨(some 21), none, (.mov (.s 1))⟩, [0, 1, 2, 3], [1]⟩, ⟨⟨(some 22), none, (.mov (.s 5))⟩, [0, 1, 2, 3, 4], [5]⟩, ⟨⟨(some 23), none, (.iadr none 2 (.s 21) (.s 22))⟩, [0, 1, 2, 3], [21, 22]⟩, ⟨⟨(some 24), none, (.load true 2 (.s 23))⟩, [0, 1, 2, 3], [23]⟩, ⟨⟨(some 25), none, (.call 197 [(.s 20), (.s 24)])⟩, [], [20, 24]⟩, ⟨⟨(some 26), none, (.un .not (.s 25))⟩, [], [25]⟩]) (.cond (.s 26) (.seq (.reg [⟨(some 4), none, (.mov (.c (.bool false)))⟩]) .ret) .skip))) (.reg [⟨(some 15), none, (.mov (.s 5))⟩, ⟨(some 16), none, (.bin .add (.s 15) (.c (.int 1)))⟩, ⟨(some 5), none, (.mov (.s 16))⟩])))))) (.seq (.reg [⟨(some 4), none, (.mov (.c (.bool true)))⟩]) .ret))))⟩
theorem p184 : prepF Try.prog 184 = some c184 := by kernel_rfl
def c186 : F := ⟨34, [(.tmp 6)], (.seq (.reg [⟨(some 6), none, (.mov (.c (.int 0)))⟩]) (.seq (.reg [⟨(some 7), none, (.mov (.c (.int 1)))⟩]) (.seq (.block 0 (.loop (.seq (.seq (.reg [⟨(some 8), none, (.mov (.s 7))⟩, ⟨(some 9), none, (.bin .gtr (.s 8) (.c (.int 0)))⟩]) (.cond (.s 9) .skip (.exit 0))) (.block 1 (.seq (.seq (.reg [⟨(some 10), none, (.mov (.s 1))⟩, ⟨(some 11), none, (.bin .lss (.s 10) (.c (.int 0)))⟩, ⟨(some 12), none, (.mov (.s 11))⟩, ⟨(some 13), (some (12, false)), (.mov (.s 0))⟩, ⟨(some 14), (some (12, false)), (.mov (.s 1))⟩, ⟨(some 15), (some (12, false)), (.iadr none 2 (.s 13) (.s 14))⟩, ⟨(some 16), (some (12, false)), (.load true 2 (.s 15))⟩, ⟨(some 17), (some (12, false)), (.mov (.s 2))⟩, ⟨(some 18), (some (12, false)), (.call 198 [(.s 16), (.s 17)])⟩, ⟨(some 19), (some (12, false)), (.bin .lss (.s 18) (.c (.int 0)))⟩, ⟨(some 20), none, (.pick (.s 12) (.c (.bool true)) (.s 19))⟩]) (.cond (.s 20) (.seq (.reg [⟨(some 6), none, (.mov (.c (.int (-1))))⟩]) .ret) .skip)) (.seq (.reg [⟨(some 21), none, (.mov (.s 7))⟩, ⟨(some 22), none, (.bin .sub (.s 21) (.c (.int 1)))⟩, ⟨(some 23), none, (.mov (.s 0))⟩, ⟨(some 24), none, (.mov (.s 1))⟩, ⟨(some 25), none, (.iadr none 2 (.s 23) (.s 24))⟩, ⟨(some 26), none, (.load true 2 (.s 25))⟩, ⟨(some 27), none, (.mov (.s 2))⟩, ⟨(some 28), none, (.call 198 [(.s 26), (.s 27)])⟩, ⟨(some 29), none, (.bin .add (.s 22) (.s 28))⟩, ⟨(some 7), none, (.mov (.s 29))⟩]) (.reg [⟨(some 30), none, (.mov (.s 1))⟩, ⟨(some 31), none, (.bin .sub (.s 30) (.c (.int 1)))⟩, ⟨(some 1), none, (.mov (.s 31))⟩]))))))) (.seq (.reg [⟨(some 32), none, (.mov (.s 1))⟩, ⟨(some 33), none, (.bin .add (.s 32) (.c (.int 1)))⟩, ⟨(some 6), none, (.mov (.s 33))⟩]) .ret))))⟩
theorem p186 : prepF Try.prog 186 = some c186 := by kernel_rfl
def c195 : F := ⟨11, [(.cell 2 true 2)], (.seq (.reg [⟨(some 1), none, (.box (.s 0))⟩, ⟨(some 2), none, (.alloc [(.int 0), (.int 0)])⟩]) (.seq (.reg [⟨(some 3), none, (.alloc [(.int 0), (.int 0)])⟩]) (.seq (.reg [⟨(some 4), none, (.fadr 0 (.s 1))⟩, ⟨(some 5), none, (.load false 1 (.s 4))⟩, ⟨(some 6), none, (.fadr 0 (.s 3))⟩, ⟨none, none, (.store false 1 (.s 6) (.s 5))⟩]) (.seq (.reg [⟨(some 7), none, (.fadr 1 (.s 1))⟩, ⟨(some 8), none, (.load false 1 (.s 7))⟩, ⟨(some 9), none, (.fadr 1 (.s 3))⟩, ⟨none, none, (.store false 1 (.s 9) (.s 8))⟩]) (.seq (.reg [⟨(some 10), none, (.load true 2 (.s 3))⟩, ⟨none, none, (.store true 2 (.s 2) (.s 10))⟩]) .ret)))))⟩
theorem p195 : prepF Try.prog 195 = some c195 := by kernel_rfl
def c197 : F := ⟨15, [(.tmp 4)], (.seq (.reg [⟨(some 2), none, (.box (.s 0))⟩, ⟨(some 3), none, (.box (.s 1))⟩, ⟨(some 4), none, (.mov (.c (.bool false)))⟩]) (.seq (.seq (.reg [⟨(some 5), none, (.fadr 0 (.s 2))⟩, ⟨(some 6), none, (.load false 1 (.s 5))⟩, ⟨(some 7), none, (.fadr 0 (.s 3))⟩, ⟨(some 8), none, (.load false 1 (.s 7))⟩, ⟨(some 9), none, (.bin .neq (.s 6) (.s 8))⟩]) (.cond (.s 9) (.seq (.reg [⟨(some 4), none, (.mov (.c (.bool false)))⟩]) .ret) .skip)) (.seq (.seq (.reg [⟨(some 10), none, (.fadr 1 (.s 2))⟩, ⟨(some 11), none, (.load false 1 (.s 10))⟩, ⟨(some 12), none, (.fadr 1 (.s 3))⟩, ⟨(some 13), none, (.load false 1 (.s 12))⟩, ⟨(some 14), none, (.bin .neq (.s 11) (.s 13))⟩]) (.cond (.s 14) (.seq (.reg [⟨(some 4), none, (.mov (.c (.bool false)))⟩]) .ret) .skip)) (.seq (.reg [⟨(some 4), none, (.mov (.c (.bool true)))⟩]) .ret))))⟩
theorem p197 : prepF Try.prog 197 = some c197 := by kernel_rfl
def c198 : F := ⟨71, [(.tmp 4)], (.seq (.reg [⟨(some 2), none, (.box (.s 0))⟩, ⟨(some 4), none, (.mov (.c (.int 0)))⟩]) (.seq (.seq (.reg [⟨(some 5), none, (.fadr 0 (.s 2))⟩, ⟨(some 6), none, (.load false 1 (.s 5))⟩, ⟨(some 7), none, (.bin .eql (.s 6) (.c (.int 1)))⟩, ⟨(some 8), none, (.mov (.s 7))⟩, ⟨(some 9), (some (8, false)), (.fadr 0 (.s 2))⟩, ⟨(some 10), (some (8, false)), (.load false 1 (.s 9))⟩, ⟨(some 11), (some (8, false)), (.bin .eql (.s 10) (.c (.int 2)))⟩, ⟨(some 12), (some (8, false)), (.mov (.s 11))⟩, ⟨(some 13), (some (12, true)), (.fadr 1 (.s 2))⟩, ⟨(some 14), (some (12, true)), (.load false 1 (.s 13))⟩, ⟨(some 15), (some (12, true)), (.bin .eql (.s 14) (.c (.int 0)))⟩, ⟨(some 16), (some (8, false)), (.pick (.s 12) (.s 15) (.c (.bool false)))⟩, ⟨(some 17), none, (.pick (.s 8) (.c (.bool true)) (.s 16))⟩]) (.cond (.s 17) (.seq (.reg [⟨(some 4), none, (.mov (.c (.int 0)))⟩]) .ret) .skip)) (.seq (.seq (.reg [⟨(some 18), none, (.fadr 0 (.s 2))⟩, ⟨(some 19), none, (.load false 1 (.s 18))⟩, ⟨(some 20), none, (.bin .eql (.s 19) (.c (.int 3)))⟩, ⟨(some 21), none, (.mov (.s 20))⟩, ⟨(some 22), (some (21, true)), (.fadr 1 (.s 2))⟩, ⟨(some 23), (some (21, true)), (.load false 1 (.s 22))⟩, ⟨(some 24), (some (21, true)), (.bin .geq (.s 23) (.c (.int 0)))⟩, ⟨(some 25), none, (.pick (.s 21) (.s 24) (.c (.bool false)))⟩, ⟨(some 26), none, (.mov (.s 25))⟩, ⟨(some 27), (some (26, true)), (.fadr 1 (.s 2))⟩, ⟨(some 28), (some (26, true)), (.load false 1 (.s 27))⟩, ⟨(some 29), (some (26, true)), (.mov (.s 1))⟩, ⟨(some 30), (some (26, true)), (.bin .lss (.s 28) (.s 29))⟩, ⟨(some 31), none, (.pick (.s 26) (.s 30) (.c (.bool false)))⟩]) (.cond (.s 31) (.seq (.reg [⟨(some 4), none, (.mov (.c (.int 0)))⟩]) .ret) .skip)) (.seq (.seq (.reg [⟨(some 32), none, (.fadr 0 (.s 2))⟩, ⟨(some 33), none, (.load false 1 (.s 32))⟩, ⟨(some 34), none, (.bin .eql (.s 33) (.c (.int 4)))⟩, ⟨(some 35), none, (.mov (.s 34))⟩, ⟨(some 36), (some (35, true)), (.fadr 1 (.s 2))⟩, ⟨(some 37), (some (35, true)), (.load false 1 (.s 36))⟩, ⟨(some 38), (some (35, true)), (.bin .geq (.s 37) (.c (.int 1)))⟩, ⟨(some 39), none, (.pick (.s 35) (.s 38) (.c (.bool false)))⟩, ⟨(some 40), none, (.mov (.s 39))⟩, ⟨(some 41), (some (40, true)), (.fadr 1 (.s 2))⟩, ⟨(some 42), (some (40, true)), (.load false 1 (.s 41))⟩, ⟨(some 43), (some (40, true)), (.bin .leq (.s 42) (.c (.int 6)))⟩, ⟨(some 44), none, (.pick (.s 40) (.s 43) (.c (.bool false)))⟩]) (.cond (.s 44) (.seq (.reg [⟨(some 4), none, (.mov (.c (.int 2)))⟩]) .ret) .skip)) (.seq (.seq (.reg [⟨(some 45), none, (.fadr 0 (.s 2))⟩, ⟨(some 46), none, (.load false 1 (.s 45))⟩, ⟨(some 47), none, (.bin .eql (.s 46) (.c (.int 5)))⟩, ⟨(some 48), none, (.mov (.s 47))⟩, ⟨(some 49), (some (48, false)), (.fadr 0 (.s 2))⟩, ⟨(some 50), (some (48, false)), (.load false 1 (.s 49))⟩, ⟨(some 51), (some (48, false)), (.bin .eql (.s 50) (.c (.int 6)))⟩, ⟨(some 52), none, (.pick (.s 48) (.c (.bool true)) (.s 51))⟩, ⟨(some 53), none, (.mov (.s 52))⟩, ⟨(some 54), (some (53, true)), (.fadr 1 (.s 2))⟩, ⟨(some 55), (some (53, true)), (.load false 1 (.s 54))⟩, ⟨(some 56), (some (53, true)), (.bin .eql (.s 55) (.c (.int 0)))⟩, ⟨(some 57), none, (.pick (.s 53) (.s 56) (.c (.bool false)))⟩]) (.cond (.s 57) (.seq (.reg [⟨(some 4), none, (.mov (.c (.int 2)))⟩]) .ret) .skip)) (.seq (.seq (.reg [⟨(some 58), none, (.fadr 0 (.s 2))⟩, ⟨(some 59), none, (.load false 1 (.s 58))⟩, ⟨(some 60), none, (.bin .eql (.s 59) (.c (.int 7)))⟩, ⟨(some 61), none, (.mov (.s 60))⟩, ⟨(some 62), (some (61, false)), (.fadr 0 (.s 2))⟩, ⟨(some 63), (some (61, false)), (.load false 1 (.s 62))⟩, ⟨(some 64), (some (61, false)), (.bin .eql (.s 63) (.c (.int 8)))⟩, ⟨(some 65), none, (.pick (.s 61) (.c (.bool true)) (.s 64))⟩, ⟨(some 66), none, (.mov (.s 65))⟩, ⟨(some 67), (some (66, true)), (.fadr 1 (.s 2))⟩, ⟨(some 68), (some (66, true)), (.load false 1 (.s 67))⟩, ⟨(some 69), (some (66, true)), (.bin .eql (.s 68) (.c (.int 0)))⟩, ⟨(some 70), none, (.pick (.s 66) (.s 69) (.c (.bool false)))⟩]) (.cond (.s 70) (.seq (.reg [⟨(some 4), none, (.mov (.c (.int 1)))⟩]) .ret) .skip)) (.seq (.reg [⟨(some 4), none, (.mov (.c (.int (-1))))⟩]) .ret)))))))⟩
theorem p198 : prepF Try.prog 198 = some c198 := by kernel_rfl
end Go.Proofs.Ytfplalbognalkaa.Ab
/- Rows of operations: sizes, copies, alike. -/
namespace Go.Proofs.Ytfplalbognalkaa.Ab
open Go
abbrev orow (p : Int × Int) : List E := [E.int p.1, E.int p.2]
abbrev dOp (k n : Int) : D := .agg [.int k, .int n]
theorem row_op {l : List (Int × Int)} {es : List (List E)} (he : es = l.map orow) {n : Int} (h : 0 ≤ n ∧ n < es.length) : ∃ p, es.getD n.toNat [] = orow p ∧ l[n.toNat]? = some p := by
  subst he
  have hn : n.toNat < l.length := by simp at h; omega
  exact ⟨l[n.toNat], by simp [List.getD, hn], by simp [hn]⟩
theorem ok195 (b v : Int) : Plain Try.prog 195 [dOp b v] (dOp b v) := okOf mixed p195 fun A P hA hP => (by
  cbv
  repeat' first | with_reducible rfl | with_reducible refine And.intro ?_ ?_ | ((with_reducible intro hcc); first | (cases hcc; done) | skip) | ((with_reducible show goC _ _ _ _ _ _ _ _); cbv) | ((with_reducible show goOps _ _ _ _ _); cbv) | ((with_reducible show goD _ _ _ _ _ _); cbv) | ((with_reducible show okWr _ _ = _); rfl) | ((with_reducible refine hA.fin_pl _ _ _ ?_); cbv) | ((with_reducible refine hA.st _ _ _ _ _ ⟨?_, fun ds hds => ?_⟩); rotate_left; cbv) | (simp only [hA.natLit, hA.natOf, hA.natCast]; cbv)
  all_goals try simp only [hA.add, hA.sub, hA.mul, hA.neg, hA.div, hA.mod, hA.mn, hA.mx, hA.eq, hA.lt, hA.le, hA.nat, hA.R, hA.lep, hA.ltp, hA.seq, inR, n_cast, Int.ofNat_eq_natCast, Option.getD_some, Option.getD_none] at *
  )
theorem ok197 (b v b' v' : Int) : Plain Try.prog 197 [dOp b v, dOp b' v'] (.bool (decide (b = b' ∧ v = v'))) := okOf mixed p197 fun A P hA hP => (by
  cbv
  repeat' first | with_reducible rfl | with_reducible refine And.intro ?_ ?_ | ((with_reducible intro hcc); first | (cases hcc; done) | skip) | ((with_reducible show goC _ _ _ _ _ _ _ _); cbv) | ((with_reducible show goOps _ _ _ _ _); cbv) | ((with_reducible show goD _ _ _ _ _ _); cbv) | ((with_reducible show okWr _ _ = _); rfl) | ((with_reducible refine hA.fin_pl _ _ _ ?_); cbv) | (simp only [hA.natLit, hA.natOf, hA.natCast]; cbv)
  all_goals try simp only [hA.add, hA.sub, hA.mul, hA.neg, hA.div, hA.mod, hA.mn, hA.mx, hA.eq, hA.lt, hA.le, hA.nat, hA.R, hA.lep, hA.ltp, hA.seq, inR, n_cast, Int.ofNat_eq_natCast, Option.getD_some, Option.getD_none] at *
  all_goals grind)
theorem ok172 (es : List (List E)) (left : Int) (h : 0 ≤ left ∧ left ≤ 1048576) : Plain Try.prog 172 [.e (.sl es), .int left] (.int (if left - es.length < 0 then -1 else left - es.length)) := okOf mixed p172 fun A P hA hP => (by
  obtain ⟨r, hr⟩ : ∃ r : Int, r = if left - es.length < 0 then -1 else left - es.length := ⟨_, rfl⟩
  rw [← hr]
  cbv
  repeat' first | with_reducible rfl | with_reducible refine And.intro ?_ ?_ | ((with_reducible intro hcc); first | (cases hcc; done) | skip) | ((with_reducible show goC _ _ _ _ _ _ _ _); cbv) | ((with_reducible show goOps _ _ _ _ _); cbv) | ((with_reducible show goD _ _ _ _ _ _); cbv) | ((with_reducible show okWr _ _ = _); rfl) | ((with_reducible refine hA.fin_pl _ _ _ ?_); cbv) | ((with_reducible refine hA.len _ _ _ _ _ fun z hz hb => ?_); cbv) | (simp only [hA.natLit, hA.natOf, hA.natCast]; cbv)
  all_goals try simp only [hA.add, hA.sub, hA.mul, hA.neg, hA.div, hA.mod, hA.mn, hA.mx, hA.eq, hA.lt, hA.le, hA.nat, hA.R, hA.lep, hA.ltp, hA.seq, inR, n_cast, Int.ofNat_eq_natCast, Option.getD_some, Option.getD_none] at *
  all_goals grind)
set_option maxRecDepth 100000 in
theorem ok184 (l l' : List (Int × Int)) (es fs : List (List E)) (he : es = l.map orow) (hf : fs = l'.map orow) : Plain Try.prog 184 [.e (.sl es), .e (.sl fs)] (.bool (decide (l = l'))) := okOf mixed p184 fun A P hA hP => (by
  obtain ⟨r, hr⟩ : ∃ r : Bool, r = decide (l = l') := ⟨_, rfl⟩
  rw [← hr]
  have hl1 : es.length = l.length := by rw [he]; simp
  have hl2 : fs.length = l'.length := by rw [hf]; simp
  cbv
  repeat' first | with_reducible rfl | with_reducible refine And.intro ?_ ?_ | ((with_reducible intro hcc); first | (cases hcc; done) | skip) | ((with_reducible show goC _ _ _ _ _ _ _ _); cbv) | ((with_reducible show goOps _ _ _ _ _); cbv) | ((with_reducible show goD _ _ _ _ _ _); cbv) | ((with_reducible show okWr _ _ = _); rfl) | ((with_reducible refine callK_eq hA hP ?_ ?_ ?_ (Wks.refl _) (fun _ _ => ok197 _ _ _ _)); exact rfl; exact rfl; cbv) | ((with_reducible refine hA.fin_pl _ _ _ ?_); cbv) | ((with_reducible refine hA.len _ _ _ _ _ fun z hz hb => ?_); cbv) | ((with_reducible refine hA.off _ _ _ _ fun b hb => ?_); cbv) | ((with_reducible refine hA.sapp _ _ _ ⟨?_, fun sl hsl => ?_⟩); rotate_left; cbv) | (simp only [hA.natLit, hA.natOf, hA.natCast]; cbv)
  all_goals try simp only [hA.add, hA.sub, hA.mul, hA.neg, hA.div, hA.mod, hA.mn, hA.mx, hA.eq, hA.lt, hA.le, hA.nat, hA.R, hA.lep, hA.ltp, hA.seq, inR, n_cast, Int.ofNat_eq_natCast, Option.getD_some, Option.getD_none] at *
  · have : l ≠ l' := fun e => by subst e; grind
    rw [hr]; simp [this]
  · have hzz : es.length = fs.length := by grind
    refine hA.loopI (fun n s => ∃ i : Int, 0 ≤ i ∧ n + i = l.length ∧ (∀ j : Nat, j < i → l[j]? = l'[j]?) ∧ s = ⟨[(5, .int i), (4, .bool false), (0, .e (.sl es)), (1, .e (.sl fs))], []⟩) l.length _ (Weak.keep (env' := [(5, .int 0), (4, .bool false), (0, .e (.sl es)), (1, .e (.sl fs))]) ⟨rfl, rfl, rfl, rfl, trivial⟩) ⟨0, by omega, by omega, fun j hj => by omega, rfl⟩ ?_
    rintro n s K ⟨i, h0, h1, h2, rfl⟩ hK
    cbv
    repeat' first | with_reducible rfl | with_reducible refine And.intro ?_ ?_ | ((with_reducible intro hcc); first | (cases hcc; done) | skip) | ((with_reducible show goC _ _ _ _ _ _ _ _); cbv) | ((with_reducible show goOps _ _ _ _ _); cbv) | ((with_reducible show goD _ _ _ _ _ _); cbv) | ((with_reducible show okWr _ _ = _); rfl) | ((with_reducible refine callK_eq hA hP ?_ ?_ ?_ (Wks.refl _) (fun _ _ => ok197 _ _ _ _)); exact rfl; exact rfl; cbv) | ((with_reducible refine hA.row es _ _ ?_); have hin : (0 : Int) ≤ i ∧ i < es.length := (by simp only [hA.lt, decide_eq_true_eq, n_cast] at *; omega); obtain ⟨⟨b1, v1⟩, e1, q1⟩ := row_op he hin; refine ⟨hin, fun row hrow => ?_⟩; rw [e1] at hrow; subst hrow; cbv) | ((with_reducible refine hA.row fs _ _ ?_); have hin : (0 : Int) ≤ i ∧ i < fs.length := (by simp only [hA.lt, decide_eq_true_eq, n_cast] at *; omega); obtain ⟨⟨b2, v2⟩, e2, q2⟩ := row_op hf hin; refine ⟨hin, fun row hrow => ?_⟩; rw [e2] at hrow; subst hrow; cbv) | ((with_reducible refine hA.fin_pl _ _ _ ?_); cbv) | ((with_reducible refine hA.len _ _ _ _ _ fun z hz hb => ?_); cbv) | ((with_reducible refine hA.off _ _ _ _ fun b hb => ?_); cbv) | ((with_reducible refine hA.sapp _ _ _ ⟨?_, fun sl hsl => ?_⟩); rotate_left; cbv) | (simp only [hA.natLit, hA.natOf, hA.natCast]; cbv)
    all_goals try simp only [hA.add, hA.sub, hA.mul, hA.neg, hA.div, hA.mod, hA.mn, hA.mx, hA.eq, hA.lt, hA.le, hA.nat, hA.R, hA.lep, hA.ltp, hA.seq, inR, n_cast, Int.ofNat_eq_natCast, Option.getD_some, Option.getD_none] at *
    · have hne : l ≠ l' := fun e => by
        subst e
        rw [q1] at q2
        simp only [Option.some.injEq, Prod.mk.injEq] at q2
        simp_all
      rw [hr]; simp [hne]
    · have := hb trivial trivial trivial
      omega
    · have hbv : b1 = b2 ∧ v1 = v2 := by grind
      refine hK _ (n - 1) _ (by omega) (Weak.keep (env' := [(5, .int (i + 1)), (4, .bool false), (0, .e (.sl es)), (1, .e (.sl fs))]) ⟨rfl, rfl, rfl, rfl, trivial⟩) ⟨i + 1, by omega, by omega, fun j hj => ?_, rfl⟩
      by_cases hji : (j : Int) < i
      · exact h2 j hji
      · have : j = i.toNat := by omega
        rw [this, q1, q2, hbv.1, hbv.2]
    · have hll : l = l' := by
        refine List.ext_getElem? fun j => ?_
        by_cases hj : (j : Int) < i
        · exact h2 j hj
        · rw [List.getElem?_eq_none (by grind), List.getElem?_eq_none (by grind)]
      rw [hr]; simp [hll])
set_option maxRecDepth 100000 in
theorem ok176 (l : List (Int × Int)) (es : List (List E)) (he : es = l.map orow) (hlen : es.length ≤ 1048576) : Plain Try.prog 176 [.e (.sl es)] (.e (.sl es)) := okOf mixed p176 fun A P hA hP => (by
  have hl1 : es.length = l.length := by rw [he]; simp
  have hes : ∀ e ∈ es, e.length = 2 := by
    rw [he]
    intro e h
    obtain ⟨p, _, rfl⟩ := List.mem_map.1 h
    rfl
  cbv
  repeat' first | with_reducible rfl | with_reducible refine And.intro ?_ ?_ | ((with_reducible intro hcc); first | (cases hcc; done) | skip) | ((with_reducible show goC _ _ _ _ _ _ _ _); cbv) | ((with_reducible show goOps _ _ _ _ _); cbv) | ((with_reducible show goD _ _ _ _ _ _); cbv) | ((with_reducible show okWr _ _ = _); rfl) | ((with_reducible refine callK_eq hA hP ?_ ?_ ?_ (Wks.refl _) (fun _ _ => ok195 _ _)); exact rfl; exact rfl; cbv) | ((with_reducible refine hA.fin_pl _ _ _ ?_); cbv) | ((with_reducible refine hA.len _ _ _ _ _ fun z hz hb => ?_); cbv) | ((with_reducible refine hA.off _ _ _ _ fun b hb => ?_); cbv) | ((with_reducible refine hA.rep _ _ _ fun ds m hds hm => ?_); cbv) | ((with_reducible refine hA.st _ _ _ _ _ ⟨?_, fun ds hds => ?_⟩); rotate_left; cbv) | ((with_reducible refine hA.alt _ _ (Or.inl ?_)); cbv) | ((with_reducible refine hA.sapp _ _ _ ⟨?_, fun sl hsl => ?_⟩); rotate_left; cbv) | (simp only [hA.natLit, hA.natOf, hA.natCast]; cbv)
  all_goals try simp only [hA.add, hA.sub, hA.mul, hA.neg, hA.div, hA.mod, hA.mn, hA.mx, hA.eq, hA.lt, hA.le, hA.nat, hA.R, hA.lep, hA.ltp, hA.seq, inR, n_cast, Int.ofNat_eq_natCast, Option.getD_some, Option.getD_none] at *
  · omega
  · omega
  · refine hA.loopI (fun n s => ∃ (i : Int) (xs : List (List E)), 0 ≤ i ∧ n + i = es.length ∧ xs.length = es.length ∧ (∀ e ∈ xs, e.length = 2) ∧ (∀ j : Nat, j < i → xs[j]? = es[j]?) ∧
        s = ⟨[(4, .int i), (3, .bs 0 0 m 2), (2, .zs), (0, .e (.sl es))], [.box (xs.flatten.map .e)]⟩) es.length _
      (Weak.keep (env' := [(4, .int 0), (3, .bs 0 0 m 2), (2, .zs), (0, .e (.sl es))]) ⟨rfl, rfl, rfl, rfl, trivial⟩)
      ⟨0, List.replicate m [E.int 0, E.int 0], by omega, by omega, by simp; omega, by simp, fun j hj => by omega, by rw [← buf_zero, hm]; rw [hds]; rfl⟩ ?_
    rintro n s K ⟨i, xs, h0, h1, h2, h3, h4, rfl⟩ hK
    obtain ⟨ys, hys⟩ : ∃ ys, ys = xs.flatten.map D.e := ⟨_, rfl⟩
    rw [← hys]
    cbv
    repeat' first | with_reducible rfl | with_reducible refine And.intro ?_ ?_ | ((with_reducible intro hcc); first | (cases hcc; done) | skip) | ((with_reducible show goC _ _ _ _ _ _ _ _); cbv) | ((with_reducible show goOps _ _ _ _ _); cbv) | ((with_reducible show goD _ _ _ _ _ _); cbv) | ((with_reducible show okWr _ _ = _); rfl) | ((with_reducible refine callK_eq hA hP ?_ ?_ ?_ (Wks.refl _) (fun _ _ => ok195 _ _)); exact rfl; exact rfl; cbv) | ((with_reducible refine hA.fin_bs (es := es) ?_ ?_ hes)) | ((with_reducible refine hA.row es _ _ ?_); have hin : (0 : Int) ≤ i ∧ i < es.length := (by simp only [hA.lt, decide_eq_true_eq, n_cast] at *; omega); obtain ⟨⟨b1, v1⟩, e1, q1⟩ := row_op he hin; refine ⟨hin, fun row hrow => ?_⟩; rw [e1] at hrow; subst hrow; cbv) | ((with_reducible refine hA.fin_pl _ _ _ ?_); cbv) | ((with_reducible refine hA.len _ _ _ _ _ fun z hz hb => ?_); cbv) | ((with_reducible refine hA.off _ _ _ _ fun b hb => ?_); cbv) | ((with_reducible refine hA.rep _ _ _ fun ds m hds hm => ?_); cbv) | ((with_reducible refine hA.st _ _ _ _ _ ⟨?_, fun ds hds => ?_⟩); rotate_left; cbv) | ((with_reducible refine hA.alt _ _ (Or.inl ?_)); cbv) | ((with_reducible refine hA.sapp _ _ _ ⟨?_, fun sl hsl => ?_⟩); rotate_left; cbv) | (simp only [hA.natLit, hA.natOf, hA.natCast]; cbv)
    all_goals try simp only [hA.add, hA.sub, hA.mul, hA.neg, hA.div, hA.mod, hA.mn, hA.mx, hA.eq, hA.lt, hA.le, hA.nat, hA.R, hA.lep, hA.ltp, hA.seq, inR, n_cast, Int.ofNat_eq_natCast, Option.getD_some, Option.getD_none] at *
    · exact h0
    · show i < (m : Int)
      omega
    · omega
    · have hb' : b = i.toNat * 2 := by omega
      have hrow : es[i.toNat]? = some [E.int b1, E.int v1] := by
        have : i.toNat < es.length := by omega
        rw [← e1]; simp [List.getD, this]
      refine hK _ (n - 1) _ (by omega) (Weak.keep (env' := [(4, .int (i + 1)), (3, .bs 0 0 m 2), (2, .zs), (0, .e (.sl es))]) ⟨rfl, rfl, rfl, rfl, trivial⟩)
        ⟨i + 1, xs.set i.toNat [E.int b1, E.int v1], by omega, by omega, by simp [h2], ?_, fun j hj => ?_, ?_⟩
      · intro e h
        rcases List.mem_or_eq_of_mem_set h with h | rfl
        · exact h3 e h
        · rfl
      · by_cases hji : (j : Int) < i
        · rw [List.getElem?_set_ne (show i.toNat ≠ j by omega)]; exact h4 j hji
        · have : j = i.toNat := by omega
          subst this
          rw [List.getElem?_set_self (show i.toNat < xs.length by omega), hrow]
      · congr 2
        rw [hds, hys, hb']
        congr 1
        exact buf_set (k := 2) (by omega) h3 (i := i.toNat) (show i.toNat < xs.length by omega) (r := [E.int b1, E.int v1]) rfl
    · have : ys.length = xs.length * 2 := by rw [hys, List.length_map, flatten_len h3]
      omega
    · have hxe : xs = es := by
        refine List.ext_getElem? fun j => ?_
        by_cases hj : (j : Int) < i
        · exact h4 j hj
        · rw [List.getElem?_eq_none (by grind), List.getElem?_eq_none (by grind)]
      rw [hys, hxe]; rfl
    · omega)
end Go.Proofs.Ytfplalbognalkaa.Ab
/- Expressions: what an operation takes. -/
namespace Go.Proofs.Ytfplalbognalkaa.Ab
open Go
def takes (o : Int × Int) (w : Int) : Int :=
  if o.1 = 1 ∨ (o.1 = 2 ∧ o.2 = 0) then 0 else if o.1 = 3 ∧ 0 ≤ o.2 ∧ o.2 < w then 0 else if o.1 = 4 ∧ 1 ≤ o.2 ∧ o.2 ≤ 6 then 2
  else if (o.1 = 5 ∨ o.1 = 6) ∧ o.2 = 0 then 2 else if (o.1 = 7 ∨ o.1 = 8) ∧ o.2 = 0 then 1 else -1
theorem takes_le (o : Int × Int) (w : Int) : -1 ≤ takes o w ∧ takes o w ≤ 2 := by unfold takes; grind
set_option maxRecDepth 100000 in
theorem ok198 (k n w : Int) : Plain Try.prog 198 [dOp k n, .int w] (.int (takes (k, n) w)) := okOf mixed p198 fun A P hA hP => (by
  obtain ⟨r, hr⟩ : ∃ r, r = takes (k, n) w := ⟨_, rfl⟩
  rw [← hr]
  cbv
  repeat' first | with_reducible rfl | with_reducible refine And.intro ?_ ?_ | ((with_reducible intro hcc); first | (cases hcc; done) | skip) | ((with_reducible show goC _ _ _ _ _ _ _ _); cbv) | ((with_reducible show goOps _ _ _ _ _); cbv) | ((with_reducible show goD _ _ _ _ _ _); cbv) | ((with_reducible show okWr _ _ = _); rfl) | ((with_reducible refine hA.fin_pl _ _ _ ?_); cbv) | ((with_reducible refine hA.gb0 true _ ?_); cbv) | ((with_reducible refine hA.gb0 false _ ?_); cbv) | ((with_reducible refine hA.gb _ _ fun vb hvb => ?_); cbv) | (simp only [hA.natLit, hA.natOf, hA.natCast]; cbv)
  all_goals try simp only [hA.add, hA.sub, hA.mul, hA.neg, hA.div, hA.mod, hA.mn, hA.mx, hA.eq, hA.lt, hA.le, hA.nat, hA.R, hA.lep, hA.ltp, hA.seq, inR, n_cast, Int.ofNat_eq_natCast, Option.getD_some, Option.getD_none] at *
  all_goals subst hr
  all_goals try simp only [takes]
  all_goals try simp at *
  all_goals grind)
end Go.Proofs.Ytfplalbognalkaa.Ab
/- Expressions: which are valid, forwards and backwards. -/
namespace Go.Proofs.Ytfplalbognalkaa.Ab
open Go
/-- Forwards: how many values lie there behind all operations; -1: not valid. -/
def fw (w : Int) : List (Int × Int) → Int → Int
  | [], h => h
  | o :: r, h => if takes o w < 0 ∨ h < takes o w then -1 else fw w r (h + 1 - takes o w)
/-- Backwards from operation n - 1: where the expression begins; -1: nowhere. -/
def back (l : List (Int × Int)) (w : Int) : Nat → Int → Int
  | 0, need => if need ≤ 0 then 0 else -1
  | n + 1, need => if need ≤ 0 then n + 1 else if takes (l.getD n (0, 0)) w < 0 then -1 else back l w n (need - 1 + takes (l.getD n (0, 0)) w)
theorem fw_snoc (w : Int) (l : List (Int × Int)) (o : Int × Int) : ∀ h : Int, 0 ≤ h → fw w (l ++ [o]) h = if fw w l h < 0 then -1 else if takes o w < 0 ∨ fw w l h < takes o w then -1 else fw w l h + 1 - takes o w := by
  induction l with
  | nil => intro h h0; show (if takes o w < 0 ∨ h < takes o w then -1 else h + 1 - takes o w) = if h < 0 then -1 else _; rw [if_neg (show ¬ h < 0 by omega)]; rfl
  | cons p l ih =>
    intro h h0
    by_cases c : takes p w < 0 ∨ h < takes p w
    · have e1 : fw w (p :: l) h = -1 := if_pos c
      have e2 : fw w (p :: (l ++ [o])) h = -1 := if_pos c
      rw [List.cons_append, e1, e2]; rfl
    · have e1 : fw w (p :: l) h = fw w l (h + 1 - takes p w) := if_neg c
      have e2 : fw w (p :: (l ++ [o])) h = fw w (l ++ [o]) (h + 1 - takes p w) := if_neg c
      rw [List.cons_append, e1, e2]; exact ih _ (by omega)
theorem fw_ge (w : Int) (l : List (Int × Int)) : ∀ h : Int, 0 ≤ h → -1 ≤ fw w l h ∧ (l ≠ [] → fw w l h ≠ 0) := by
  induction l with
  | nil => intro h h0; simp only [fw]; exact ⟨by omega, fun e => absurd rfl e⟩
  | cons p l ih =>
    intro h h0
    simp only [fw]
    split
    · exact ⟨by omega, fun _ => by omega⟩
    · rename_i c
      obtain ⟨a, b⟩ := ih (h + 1 - takes p w) (by omega)
      refine ⟨a, fun _ => ?_⟩
      cases l with
      | nil => simp only [fw]; omega
      | cons q l => exact b (by simp)
theorem back_fw (w : Int) (l : List (Int × Int)) : ∀ (n : Nat), n ≤ l.length → ∀ need : Int, 1 ≤ need → (back l w n need = 0 ↔ fw w (l.take n) 0 = need) := by
  intro n
  induction n with
  | zero => intro _ need h; simp only [back, List.take_zero, fw]; rw [if_neg (by omega)]; omega
  | succ n ih =>
    intro hn need h
    have hlt : n < l.length := by omega
    have e1 : l.getD n (0, 0) = l[n] := by simp [List.getD, hlt]
    have e2 : l.take (n + 1) = l.take n ++ [l[n]] := by rw [List.take_add_one]; simp [hlt]
    obtain ⟨g1, g2⟩ := fw_ge w (l.take n) 0 (Int.le_refl _)
    have tl := takes_le l[n] w
    rw [e2, fw_snoc w _ _ 0 (Int.le_refl _)]
    simp only [back]
    rw [if_neg (by omega), e1]
    generalize takes l[n] w = t at *
    generalize hv : fw w (l.take n) 0 = v at *
    by_cases ct : t < 0
    · rw [if_pos ct, if_pos (show t < 0 ∨ v < t from .inl ct)]; split <;> omega
    · rw [if_neg ct]
      by_cases c2 : 1 ≤ need - 1 + t
      · rw [ih (by omega) _ c2]
        split
        · omega
        · split <;> omega
      · have hz : back l w n (need - 1 + t) = n := by
          cases n with
          | zero => simp only [back]; rw [if_pos (by omega)]; rfl
          | succ n => simp only [back]; rw [if_pos (by omega)]; rfl
        rw [hz]
        have hnn : (n + 1 : Int) ≠ 0 := by omega
        have hv0 : v = 0 ↔ n = 0 := by
          constructor
          · intro e
            rcases Nat.eq_zero_or_pos n with h0 | h0
            · exact h0
            · exact absurd e (g2 (fun e => by have q : (l.take n).length = 0 := (by rw [e]; rfl); rw [List.length_take] at q; omega))
          · intro e; subst e; simp [fw] at hv; exact hv.symm
        split
        · omega
        · split
          · omega
          · have : (n : Int) = 0 ↔ v = 0 := by omega
            omega
/-- Valid either way. -/
def exOk (l : List (Int × Int)) (w : Int) : Bool := decide (0 ≤ w ∧ 1 ≤ l.length ∧ l.length ≤ 5000 ∧ back l w l.length 1 = 0)
theorem exOk_fw (l : List (Int × Int)) (w : Int) : exOk l w = decide (l.length ≤ 5000 ∧ 0 ≤ w ∧ fw w l 0 = 1) := by
  have h := back_fw w l l.length (Nat.le_refl _) 1 (Int.le_refl _)
  rw [List.take_length] at h
  unfold exOk
  have : fw w l 0 = 1 → 1 ≤ l.length := fun e => by cases l <;> simp [fw] at e ⊢
  rw [decide_eq_decide]
  constructor
  · rintro ⟨a, b, c, d⟩; exact ⟨c, a, h.1 d⟩
  · rintro ⟨c, a, d⟩; exact ⟨a, this d, c, h.2 d⟩
set_option maxRecDepth 100000 in
theorem ok186 (l : List (Int × Int)) (es : List (List E)) (he : es = l.map orow) (hlen : es.length ≤ 1048576) (n : Nat) (hn : n ≤ l.length) (i w : Int) (hi : i = n - 1) : Plain Try.prog 186 [.e (.sl es), .int i, .int w] (.int (back l w n 1)) := okOf mixed p186 fun A P hA hP => (by
  have hl1 : es.length = l.length := by rw [he]; simp
  obtain ⟨r, hr⟩ : ∃ r, r = back l w n 1 := ⟨_, rfl⟩
  rw [← hr]
  cbv
  repeat' first | with_reducible rfl | with_reducible refine And.intro ?_ ?_ | ((with_reducible intro hcc); first | (cases hcc; done) | skip) | ((with_reducible show goC _ _ _ _ _ _ _ _); cbv) | ((with_reducible show goOps _ _ _ _ _); cbv) | ((with_reducible show goD _ _ _ _ _ _); cbv) | ((with_reducible show okWr _ _ = _); rfl) | ((with_reducible refine hA.fin_pl _ _ _ ?_); cbv) | ((with_reducible refine hA.off _ _ _ _ fun b hb => ?_); cbv) | ((with_reducible refine hA.sapp _ _ _ ⟨?_, fun sl hsl => ?_⟩); rotate_left; cbv) | ((with_reducible refine hA.gb0 true _ ?_); cbv) | ((with_reducible refine hA.gb0 false _ ?_); cbv) | ((with_reducible refine hA.gb _ _ fun vb hvb => ?_); cbv) | (simp only [hA.natLit, hA.natOf, hA.natCast]; cbv)
  all_goals try simp only [hA.add, hA.sub, hA.mul, hA.neg, hA.div, hA.mod, hA.mn, hA.mx, hA.eq, hA.lt, hA.le, hA.nat, hA.R, hA.lep, hA.ltp, hA.seq, inR, n_cast, Int.ofNat_eq_natCast, Option.getD_some, Option.getD_none] at *
  refine hA.loopI (fun m s => ∃ (need i : Int), i = m - 1 ∧ m ≤ n ∧ 0 ≤ need ∧ need ≤ 1 + 2 * (n - m) ∧ r = back l w m need ∧ s = ⟨[(7, .int need), (1, .int i), (0, .e (.sl es)), (2, .int w)], []⟩) n _
    (Weak.keep (env' := [(7, .int 1), (1, .int i), (0, .e (.sl es)), (2, .int w)]) ⟨rfl, rfl, rfl, rfl, trivial⟩) ⟨1, i, hi, Nat.le_refl _, by omega, by omega, hr, rfl⟩ ?_
  rintro m s K ⟨need, i, hi, h0, h1, h2, h3, rfl⟩ hK
  cases m with
  | zero =>
    have hlt : A.lt i 0 = true := by rw [hA.lt]; simp [hi]
    have hr2 : r = if need ≤ 0 then 0 else -1 := h3
    clear h3
    cbv
    repeat' first | with_reducible rfl | with_reducible refine And.intro ?_ ?_ | ((with_reducible intro hcc); first | (cases hcc; done) | skip) | ((with_reducible show goC _ _ _ _ _ _ _ _); cbv) | ((with_reducible show goOps _ _ _ _ _); cbv) | ((with_reducible show goD _ _ _ _ _ _); cbv) | ((with_reducible show okWr _ _ = _); rfl) | (simp only [hlt]; cbv) | ((with_reducible refine hA.row0 _ _ _ fun p row => ?_); cbv) | ((with_reducible refine callK_no hA (.int 0) ?_); cbv) | ((with_reducible refine hA.fin_pl _ _ _ ?_); cbv) | ((with_reducible refine hA.off _ _ _ _ fun b hb => ?_); cbv) | ((with_reducible refine hA.sapp _ _ _ ⟨?_, fun sl hsl => ?_⟩); rotate_left; cbv) | ((with_reducible refine hA.gb0 true _ ?_); cbv) | ((with_reducible refine hA.gb0 false _ ?_); cbv) | ((with_reducible refine hA.gb _ _ fun vb hvb => ?_); cbv) | (simp only [hA.natLit, hA.natOf, hA.natCast]; cbv)
    all_goals try simp only [hA.add, hA.sub, hA.mul, hA.neg, hA.div, hA.mod, hA.mn, hA.mx, hA.eq, hA.lt, hA.le, hA.nat, hA.R, hA.lep, hA.ltp, hA.seq, inR, n_cast, Int.ofNat_eq_natCast, Option.getD_some, Option.getD_none] at *
    all_goals first
      | (clear hK; grind; done)
      | (trace_state; fail)
  | succ m =>
    have hlt : A.lt i 0 = false := by rw [hA.lt]; simp [hi]
    have hm : m < l.length := by omega
    have hin : (0 : Int) ≤ i ∧ i < es.length := by omega
    obtain ⟨⟨k, v⟩, e1, q1⟩ := row_op he hin
    have e2 : l.getD m (0, 0) = (k, v) := by
      have : i.toNat = m := by omega
      rw [this] at q1
      simp [List.getD, q1]
    obtain ⟨tk, htk⟩ : ∃ tk, tk = takes (k, v) w := ⟨_, rfl⟩
    have h85 := ok198 k v w
    have tl := takes_le (k, v) w
    rw [← htk] at h85 tl
    have hr2 : r = if need ≤ 0 then ((m + 1 : Nat) : Int) else if tk < 0 then -1 else back l w m (need - 1 + tk) := by
      rw [h3, back, e2, ← htk]; rfl
    obtain ⟨b, hb⟩ : ∃ b, b = back l w m (need - 1 + tk) := ⟨_, rfl⟩
    rw [← hb] at hr2
    clear h3 hr htk
    cbv
    repeat' first | with_reducible rfl | with_reducible refine And.intro ?_ ?_ | ((with_reducible intro hcc); first | (cases hcc; done) | skip) | ((with_reducible show goC _ _ _ _ _ _ _ _); cbv) | ((with_reducible show goOps _ _ _ _ _); cbv) | ((with_reducible show goD _ _ _ _ _ _); cbv) | ((with_reducible show okWr _ _ = _); rfl) | (simp only [hlt]; cbv) | ((with_reducible refine hA.row es _ _ ⟨hin, fun row hrow => ?_⟩); rw [e1] at hrow; subst hrow; cbv) | ((with_reducible refine callK_eq hA hP ?_ ?_ ?_ (Wks.refl _) (fun _ _ => h85)); exact rfl; exact rfl; cbv) | ((with_reducible refine hA.fin_pl _ _ _ ?_); cbv) | ((with_reducible refine hA.off _ _ _ _ fun b hb => ?_); cbv) | ((with_reducible refine hA.sapp _ _ _ ⟨?_, fun sl hsl => ?_⟩); rotate_left; cbv) | ((with_reducible refine hA.gb0 true _ ?_); cbv) | ((with_reducible refine hA.gb0 false _ ?_); cbv) | ((with_reducible refine hA.gb _ _ fun vb hvb => ?_); cbv) | (simp only [hA.natLit, hA.natOf, hA.natCast]; cbv)
    all_goals try simp only [hA.add, hA.sub, hA.mul, hA.neg, hA.div, hA.mod, hA.mn, hA.mx, hA.eq, hA.lt, hA.le, hA.nat, hA.R, hA.lep, hA.ltp, hA.seq, inR, n_cast, Int.ofNat_eq_natCast, Option.getD_some, Option.getD_none] at *
    all_goals first
      | omega
      | (clear hK; grind; done)
      | (refine hK _ m _ (by omega) (Weak.keep (env' := [(7, .int (need - 1 + tk)), (1, .int (i - 1)), (0, .e (.sl es)), (2, .int w)]) ⟨rfl, rfl, rfl, rfl, trivial⟩) ⟨need - 1 + tk, i - 1, by omega, by omega, by grind, by grind, by grind, rfl⟩)
      | (trace_state; fail))
end Go.Proofs.Ytfplalbognalkaa.Ab
/- Expressions: valid, by the specification and by the program. -/
namespace Go.Proofs.Ytfplalbognalkaa.Ab
open Go
set_option maxRecDepth 100000 in
theorem ok144 (l : List (Int × Int)) (es : List (List E)) (he : es = l.map orow) (hlen : es.length ≤ 1048576) (w : Int) : Plain Try.prog 144 [.e (.sl es), .int w] (.bool (exOk l w)) := okOf mixed p144 fun A P hA hP => (by
  have hl1 : es.length = l.length := by rw [he]; simp
  obtain ⟨b, hb⟩ : ∃ b, b = back l w l.length 1 := ⟨_, rfl⟩
  have h62 := fun i => ok186 l es he hlen l.length (Nat.le_refl _) i w
  rw [← hb] at h62
  obtain ⟨r, hr⟩ : ∃ r, r = exOk l w := ⟨_, rfl⟩
  rw [← hr]
  have hr2 : r = decide (0 ≤ w ∧ 1 ≤ es.length ∧ es.length ≤ 5000 ∧ b = 0) := by rw [hr, hb, hl1]; rfl
  clear hr hb
  cbv
  repeat' first | with_reducible rfl | with_reducible refine And.intro ?_ ?_ | ((with_reducible intro hcc); first | (cases hcc; done) | skip) | ((with_reducible show goC _ _ _ _ _ _ _ _); cbv) | ((with_reducible show goOps _ _ _ _ _); cbv) | ((with_reducible show goD _ _ _ _ _ _); cbv) | ((with_reducible show okWr _ _ = _); rfl) | ((with_reducible refine callK_eq hA hP ?_ ?_ ?_ (Wks.refl _) (fun _ _ => h62 _ ?_)); exact rfl; exact rfl; cbv) | ((with_reducible refine hA.fin_pl _ _ _ ?_); cbv) | ((with_reducible refine hA.len _ _ _ _ _ fun z hz hb => ?_); cbv) | ((with_reducible refine hA.gb0 true _ ?_); cbv) | ((with_reducible refine hA.gb0 false _ ?_); cbv) | ((with_reducible refine hA.gb _ _ fun vb hvb => ?_); cbv) | (simp only [hA.natLit, hA.natOf, hA.natCast]; cbv)
  all_goals try simp only [hA.add, hA.sub, hA.mul, hA.neg, hA.div, hA.mod, hA.mn, hA.mx, hA.eq, hA.lt, hA.le, hA.nat, hA.R, hA.lep, hA.ltp, hA.seq, inR, n_cast, Int.ofNat_eq_natCast, Option.getD_some, Option.getD_none] at *
  all_goals first | omega | (simp at *; grind))
theorem fw_drop {w : Int} {l : List (Int × Int)} {i : Nat} {p : Int × Int} (h : l[i]? = some p) (x : Int) : fw w (l.drop i) x = if takes p w < 0 ∨ x < takes p w then -1 else fw w (l.drop (i + 1)) (x + 1 - takes p w) := by
  obtain ⟨a, b⟩ := List.getElem?_eq_some_iff.1 h
  rw [List.drop_eq_getElem_cons a, b]
  rfl
set_option maxRecDepth 100000 in
set_option maxHeartbeats 2000000 in
theorem ok181 (l : List (Int × Int)) (es : List (List E)) (he : es = l.map orow) (hlen : es.length ≤ 1048576) (w : Int) : Plain Try.prog 181 [.e (.sl es), .int w] (.bool (exOk l w)) := okOf mixed p181 fun A P hA hP => (by
  have hl1 : es.length = l.length := by rw [he]; simp
  obtain ⟨r, hr⟩ : ∃ r, r = exOk l w := ⟨_, rfl⟩
  rw [← hr]
  obtain ⟨c, hc⟩ : ∃ c : Bool, c = decide (fw w l 0 = 1) := ⟨_, rfl⟩
  have hr2 : r = (decide (es.length ≤ 5000 ∧ 0 ≤ w) && c) := by rw [hr, hc, hl1, exOk_fw]; by_cases a : l.length ≤ 5000 <;> by_cases b : 0 ≤ w <;> simp [a, b]
  clear hr
  cbv
  repeat' first | with_reducible rfl | with_reducible refine And.intro ?_ ?_ | ((with_reducible intro hcc); first | (cases hcc; done) | skip) | ((with_reducible show goC _ _ _ _ _ _ _ _); cbv) | ((with_reducible show goOps _ _ _ _ _); cbv) | ((with_reducible show goD _ _ _ _ _ _); cbv) | ((with_reducible show okWr _ _ = _); rfl) | ((with_reducible refine hA.fin_pl _ _ _ ?_); cbv) | ((with_reducible refine hA.len _ _ _ _ _ fun z hz hb => ?_); cbv) | ((with_reducible refine hA.off _ _ _ _ fun b hb => ?_); cbv) | ((with_reducible refine hA.plus _ _ _ fun b hb => ?_); cbv) | ((with_reducible refine hA.st _ _ _ _ _ ⟨?_, fun ds hds => ?_⟩); rotate_left; cbv) | ((with_reducible refine hA.sapp _ _ _ ⟨?_, fun sl hsl => ?_⟩); rotate_left; cbv) | ((with_reducible refine hA.gb0 true _ ?_); cbv) | ((with_reducible refine hA.gb0 false _ ?_); cbv) | ((with_reducible refine hA.gb _ _ fun vb hvb => ?_); cbv) | (simp only [hA.natLit, hA.natOf, hA.natCast]; cbv)
  all_goals try simp only [hA.add, hA.sub, hA.mul, hA.neg, hA.div, hA.mod, hA.mn, hA.mx, hA.eq, hA.lt, hA.le, hA.nat, hA.R, hA.lep, hA.ltp, hA.seq, inR, n_cast, Int.ofNat_eq_natCast, Option.getD_some, Option.getD_none] at *
  all_goals try (first | omega | (clear hc; grind; done) | (clear hc; simp at *; grind; done))
  · have hrc : r = c := by clear hc; simp at *; grind
    refine hA.loopI (fun n s => ∃ i h : Int, 0 ≤ i ∧ n + i = es.length ∧ 0 ≤ h ∧ h ≤ i ∧ r = decide (fw w (l.drop i.toNat) h = 1) ∧
      s = ⟨[(18, .int i), (17, .int z), (16, .e (.sl es)), (5, .int h), (4, .bool false), (1, .int w)], []⟩) es.length _
      (Weak.keep (env' := [(18, .int 0), (17, .int _), (16, .e (.sl es)), (5, .int 0), (4, .bool false), (1, .int w)]) ⟨rfl, rfl, rfl, rfl, rfl, rfl, trivial⟩) ⟨0, 0, by omega, by omega, by omega, by omega, by rw [hrc, hc]; rfl, by rfl⟩ ?_
    rintro n s K ⟨i, h, h0, h1, h2, h3, h4, rfl⟩ hK
    by_cases hin : (0 : Int) ≤ i ∧ i < es.length
    · obtain ⟨⟨k, v⟩, e1, q1⟩ := row_op he hin
      rw [fw_drop q1] at h4
      obtain ⟨F, hF⟩ : ∃ F : Int → Bool, ∀ x, F x = decide (fw w (l.drop (i.toNat + 1)) x = 1) := ⟨_, fun _ => rfl⟩
      have h5 : r = if takes (k, v) w < 0 ∨ h < takes (k, v) w then false else F (h + 1 - takes (k, v) w) := by
        rw [h4, hF]; split <;> simp
      obtain ⟨tk, htk⟩ : ∃ tk, tk = takes (k, v) w := ⟨_, rfl⟩
      rw [← htk] at h5
      have f1 : tk < 0 → r = false := fun a => by rw [h5, if_pos (.inl a)]
      have f2 : h < tk → r = false := fun a => by rw [h5, if_pos (.inr a)]
      have hK2 : ∀ hh : Int, 0 ≤ tk → tk ≤ h → hh = h + 1 - tk → ∀ s1, Weak (hpF []) s1 ⟨[(18, .int (i + 1)), (17, .int z), (16, .e (.sl es)), (5, .int hh), (4, .bool false), (1, .int w)], []⟩ → K s1 := fun hh a b c s1 d => by
        refine hK s1 (n - 1) _ (by omega) d ⟨i + 1, hh, by omega, by omega, by omega, by omega, ?_, rfl⟩
        have : (i + 1).toNat = i.toNat + 1 := by omega
        rw [h5, if_neg (by omega), hF, this, c]
      have t1 : k = 1 → tk = 0 := fun e => by simp [htk, takes, e]
      have t2 : k = 2 → tk = if v = 0 then 0 else -1 := fun e => by simp [htk, takes, e]
      have t3 : k = 3 → tk = if 0 ≤ v ∧ v < w then 0 else -1 := fun e => by simp [htk, takes, e]
      have t4 : k = 4 → tk = if 1 ≤ v ∧ v ≤ 6 then 2 else -1 := fun e => by simp [htk, takes, e]
      have t5 : k = 5 ∨ k = 6 → tk = if v = 0 then 2 else -1 := fun e => by rcases e with e | e <;> simp [htk, takes, e]
      have t6 : k = 7 ∨ k = 8 → tk = if v = 0 then 1 else -1 := fun e => by rcases e with e | e <;> simp [htk, takes, e]
      have t7 : k < 1 ∨ 8 < k → tk = -1 := fun e => by simp only [htk, takes]; repeat (rw [if_neg (by omega)])
      clear hK hF h4 hr2 hrc hc h5 htk
      cbv
      repeat' first | with_reducible rfl | with_reducible refine And.intro ?_ ?_ | ((with_reducible intro hcc); first | (cases hcc; done) | skip) | ((with_reducible show goC _ _ _ _ _ _ _ _); cbv) | ((with_reducible show goOps _ _ _ _ _); cbv) | ((with_reducible show goD _ _ _ _ _ _); cbv) | ((with_reducible show okWr _ _ = _); rfl) | ((with_reducible refine hA.row es _ _ ⟨hin, fun row hrow => ?_⟩); rw [e1] at hrow; subst hrow; cbv) | ((with_reducible refine hA.fin_pl _ _ _ ?_); cbv) | ((with_reducible refine hA.len _ _ _ _ _ fun z hz hb => ?_); cbv) | ((with_reducible refine hA.off _ _ _ _ fun b hb => ?_); cbv) | ((with_reducible refine hA.plus _ _ _ fun b hb => ?_); cbv) | ((with_reducible refine hA.st _ _ _ _ _ ⟨?_, fun ds hds => ?_⟩); rotate_left; cbv) | ((with_reducible refine hA.sapp _ _ _ ⟨?_, fun sl hsl => ?_⟩); rotate_left; cbv) | ((with_reducible refine hA.gb0 true _ ?_); cbv) | ((with_reducible refine hA.gb0 false _ ?_); cbv) | ((with_reducible refine hA.gb _ _ fun vb hvb => ?_); cbv) | (simp only [hA.natLit, hA.natOf, hA.natCast]; cbv)
      all_goals try simp only [hA.add, hA.sub, hA.mul, hA.neg, hA.div, hA.mod, hA.mn, hA.mx, hA.eq, hA.lt, hA.le, hA.nat, hA.R, hA.lep, hA.ltp, hA.seq, inR, n_cast, Int.ofNat_eq_natCast, Option.getD_some, Option.getD_none] at *
      all_goals first
        | omega
        | (clear hK2; grind; done)
        | (clear hK2; simp at *; grind; done)
        | (refine hK2 _ ?_ ?_ ?_ _ (Weak.gc ⟨rfl, rfl, rfl, rfl, rfl, rfl, trivial⟩ rfl)
           all_goals clear hK2 hin e1 q1 hl1 hlen he h1
           all_goals first | grind | (simp at *; grind))
    · have : l.drop i.toNat = [] := by rw [List.drop_eq_nil_iff]; omega
      rw [this] at h4
      have h5 : r = decide (h = 1) := h4
      clear h4 hK
      cbv
      repeat' first | with_reducible rfl | with_reducible refine And.intro ?_ ?_ | ((with_reducible intro hcc); first | (cases hcc; done) | skip) | ((with_reducible show goC _ _ _ _ _ _ _ _); cbv) | ((with_reducible show goOps _ _ _ _ _); cbv) | ((with_reducible show goD _ _ _ _ _ _); cbv) | ((with_reducible show okWr _ _ = _); rfl) | ((with_reducible refine hA.row0 _ _ _ fun p row => ?_); cbv) | ((with_reducible refine hA.fin_pl _ _ _ ?_); cbv) | ((with_reducible refine hA.len _ _ _ _ _ fun z hz hb => ?_); cbv) | ((with_reducible refine hA.off _ _ _ _ fun b hb => ?_); cbv) | ((with_reducible refine hA.plus _ _ _ fun b hb => ?_); cbv) | ((with_reducible refine hA.st _ _ _ _ _ ⟨?_, fun ds hds => ?_⟩); rotate_left; cbv) | ((with_reducible refine hA.sapp _ _ _ ⟨?_, fun sl hsl => ?_⟩); rotate_left; cbv) | ((with_reducible refine hA.gb0 true _ ?_); cbv) | ((with_reducible refine hA.gb0 false _ ?_); cbv) | ((with_reducible refine hA.gb _ _ fun vb hvb => ?_); cbv) | (simp only [hA.natLit, hA.natOf, hA.natCast]; cbv)
      all_goals try simp only [hA.add, hA.sub, hA.mul, hA.neg, hA.div, hA.mod, hA.mn, hA.mx, hA.eq, hA.lt, hA.le, hA.nat, hA.R, hA.lep, hA.ltp, hA.seq, inR, n_cast, Int.ofNat_eq_natCast, Option.getD_some, Option.getD_none] at *
      all_goals first
        | omega
        | (simp at *; grind; done)
        | (trace_state; fail))
end Go.Proofs.Ytfplalbognalkaa.Ab
/- Flat plans: which are valid, as the program and as the specification say it; that both say the same. -/
namespace Go.Proofs.Ytfplalbognalkaa.Ab
open Go
structure Fd where
  K : Int
  T : Int
  M : Int
  W : Int
  Ex : List (Int × Int)
  Exs : List (List (Int × Int))
  L : Int
  R : Int
  deriving DecidableEq, Inhabited
abbrev orr (r : List (Int × Int)) : List E := [E.sl (r.map orow)]
abbrev fdr (d : Fd) : List E := [E.int d.K, E.int d.T, E.int d.M, E.int d.W, E.sl (d.Ex.map orow), E.sl (d.Exs.map orr), E.int d.L, E.int d.R]
/-! ### The specification -/
def two (k : Int) : Bool := decide (k = 5 ∨ k = 6 ∨ k = 7 ∨ k = 9 ∨ k = 10 ∨ k = 11)
def one (k : Int) : Bool := two k || decide (k = 3 ∨ k = 4 ∨ k = 8)
def mat (k : Int) : Bool := two k && decide (k ≠ 9)
def usS (k m : Int) : Bool := decide (k = 3 ∨ k = 6 ∨ k = 10 ∨ k = 11 ∨ (k = 7 ∧ m ≠ 1))
def plc (on : Bool) (p i : Int) : Bool := if on then decide (0 ≤ p ∧ p < i) else decide (p = 0)
def fldS (d : Fd) (i nt : Int) : Bool :=
  decide (1 ≤ d.K ∧ d.K ≤ 11) && ((if d.K = 2 then decide (0 ≤ d.T ∧ d.T < nt) else decide (d.T = 0)) && ((if d.K = 7 then decide (1 ≤ d.M ∧ d.M ≤ 4) else decide (d.M = 0)) &&
  (plc (one d.K) d.L i && (plc (two d.K) d.R i && ((mat d.K || decide (d.W = 0)) && ((usS d.K d.M || decide (d.Ex = [])) && (decide (d.K = 4) || decide (d.Exs = []))))))))
def widS (d : Fd) (cols : Int → Int) (l r : Int) : Int :=
  if d.K = 1 then 0 else if d.K = 2 then cols d.T else if mat d.K = true ∧ (d.W < 0 ∨ d.W > l ∨ d.W > r) then -1
  else if usS d.K d.M = true ∧ exOk d.Ex (if d.K = 3 then l else r) = false then -1
  else if (d.Exs.all fun e => exOk e l) = false then -1
  else if d.K = 4 then d.Exs.length else if d.K = 5 then l + r - d.W else if d.K = 6 ∨ d.K = 7 then l + 1 else if d.K = 9 ∧ l ≠ r then -1 else l
def at0 (on : Bool) (ws : List Int) (p : Int) : Int := if on then ws.getD p.toNat 0 else 0
def stS (nt : Int) (cols : Int → Int) (ws : List Int) (d : Fd) : Option Int :=
  if fldS d ws.length nt = true then
    let w := widS d cols (at0 (one d.K) ws d.L) (at0 (two d.K) ws d.R)
    if w < 0 ∨ w > 200 then none else some w
  else none
/-! ### The program -/
def lef (k : Int) : Bool := decide (3 ≤ k ∧ k ≤ 11)
def rig (k : Int) : Bool := decide (5 ≤ k ∧ k ≤ 7) || decide (9 ≤ k ∧ k ≤ 11)
def mtc (k : Int) : Bool := decide (5 ≤ k ∧ k ≤ 7) || (decide (k = 10) || decide (k = 11))
def usI (k m : Int) : Bool := decide (k = 3) || (decide (k = 6) || (decide (k = 10) || (decide (k = 11) || (decide (k = 7) && decide (1 < m)))))
def fldI (d : Fd) (i : Int) : Bool :=
  decide (1 ≤ d.K ∧ d.K ≤ 11) && (plc (lef d.K) d.L i && (plc (rig d.K) d.R i && ((decide (d.K = 2) || decide (d.T = 0)) && ((decide (d.K = 7) || decide (d.M = 0)) && ((mtc d.K || decide (d.W = 0)) &&
  ((!decide (d.K = 7) || decide (1 ≤ d.M ∧ d.M ≤ 4)) && ((usI d.K d.M || decide (d.Ex = [])) && (decide (d.K = 4) || decide (d.Exs = [])))))))))
def widI (d : Fd) (nt : Int) (cols : Int → Int) (l r : Int) : Int :=
  if mtc d.K = true ∧ (d.W < 0 ∨ d.W > min l r) then -1
  else if usI d.K d.M = true ∧ exOk d.Ex (if d.K = 3 then l else r) = false then -1
  else if d.K = 2 ∧ (d.T < 0 ∨ nt ≤ d.T) then -1
  else if d.K = 4 ∧ (d.Exs.all fun e => exOk e l) = false then -1
  else if d.K = 9 ∧ l ≠ r then -1
  else
    let w := if d.K = 2 then cols d.T else if d.K = 4 then (d.Exs.length : Int) else if d.K = 5 then l + r - d.W else if d.K = 6 ∨ d.K = 7 then l + 1 else l
    if w > 200 then -1 else w
def stI (nt : Int) (cols : Int → Int) (ws : List Int) (d : Fd) : Option Int :=
  if fldI d ws.length = true then
    let w := widI d nt cols (at0 (lef d.K) ws d.L) (at0 (rig d.K) ws d.R)
    if w < 0 then none else some w
  else none
theorem two_rig {k : Int} : rig k = two k := by unfold rig two; rw [Bool.eq_iff_iff]; simp; omega
theorem one_lef {k : Int} : lef k = one k := by rw [one, ← two_rig, rig, lef, Bool.eq_iff_iff]; simp; omega
theorem mat_mtc {k : Int} : mtc k = mat k := by rw [mat, ← two_rig, rig, mtc, Bool.eq_iff_iff]; simp; omega
theorem us_us {k m : Int} (h : k = 7 → 1 ≤ m) : usI k m = usS k m := by unfold usI usS; rw [Bool.eq_iff_iff]; simp; omega
theorem st_eqF (nt : Int) (cols : Int → Int) (ws : List Int) (d : Fd) : stI nt cols ws d = stS nt cols ws d := by
  obtain ⟨K, T, M, W, Ex, Exs, L, R⟩ := d
  unfold stI stS fldI fldS
  simp only [two_rig, one_lef, mat_mtc]
  by_cases hM : K = 7 ∧ ¬ (1 ≤ M ∧ M ≤ 4)
  · simp [hM.1, hM.2]
  · have hu : usI K M = usS K M := us_us fun h => by omega
    unfold widI widS
    simp only [hu, mat_mtc]
    obtain ⟨l, hl⟩ : ∃ l, l = at0 (one K) ws L := ⟨_, rfl⟩
    obtain ⟨r, hr⟩ : ∃ l, l = at0 (two K) ws R := ⟨_, rfl⟩
    rw [← hl, ← hr]
    have hl0 : one K = false → l = 0 := fun h => by rw [hl, h]; rfl
    obtain ⟨x1, hx1⟩ : ∃ x, x = plc (one K) L ws.length := ⟨_, rfl⟩
    obtain ⟨x2, hx2⟩ : ∃ x, x = plc (two K) R ws.length := ⟨_, rfl⟩
    rw [← hx1, ← hx2]
    obtain ⟨x3, hx3⟩ : ∃ x, x = exOk Ex (if K = 3 then l else r) := ⟨_, rfl⟩
    obtain ⟨x4, hx4⟩ : ∃ x, x = Exs.all fun e => exOk e l := ⟨_, rfl⟩
    have h4 : Exs = [] → x4 = true := fun h => by rw [hx4, h]; rfl
    rw [← hx3, ← hx4]
    clear hx1 hx2 hx3 hx4 hl hr hu
    have hK : K = 1 ∨ K = 2 ∨ K = 3 ∨ K = 4 ∨ K = 5 ∨ K = 6 ∨ K = 7 ∨ K = 8 ∨ K = 9 ∨ K = 10 ∨ K = 11 ∨ ¬ (1 ≤ K ∧ K ≤ 11) := by omega
    rcases hK with rfl | rfl | rfl | rfl | rfl | rfl | rfl | rfl | rfl | rfl | rfl | hK
    case inr.inr.inr.inr.inr.inr.inr.inr.inr.inr.inr => simp [hK]
    all_goals simp [one, two, mat, usS] at hl0 ⊢
    all_goals first | grind | (trace_state; fail)
end Go.Proofs.Ytfplalbognalkaa.Ab
/- Plans: which are valid, and their widths, as the specification and as the program say it. -/
namespace Go.Proofs.Ytfplalbognalkaa.Ab
open Go
structure Pd where
  K : Int
  T : Int
  M : Int
  Ex : List (Int × Int)
  Exs : List (List (Int × Int))
  L : Int
  R : Int
  deriving DecidableEq, Inhabited
abbrev pdr (d : Pd) : List E := [E.int d.K, E.int d.T, E.int d.M, E.sl (d.Ex.map orow), E.sl (d.Exs.map orr), E.int d.L, E.int d.R]
def hasL (k : Int) : Bool := decide (3 ≤ k ∧ k ≤ 10)
def hasR (k : Int) : Bool := decide (5 ≤ k ∧ k ≤ 8) || decide (k = 10)
def depK (k : Int) : Bool := decide (k = 6 ∨ k = 7 ∨ k = 8)
/-- The kids of a node, from the last. -/
def kidsP (d : Pd) : List Int := (if hasR d.K then [d.R] else []) ++ (if hasL d.K then [d.L] else [])
/-- A node's kind is one of the kinds, and the places that it does not use are 0. -/
def formP (d : Pd) : Bool := decide (1 ≤ d.K ∧ d.K ≤ 10) && ((hasR d.K || decide (d.R = 0)) && (hasL d.K || decide (d.L = 0)))
/-- Where the stretch of a node begins, by both; -1: not in order. -/
def frN (ns : List Pd) : Nat → Int → Int
  | 0, _ => -1
  | n + 1, i => if formP (ns.getD i.toNat default) = true then chain (frN ns n) (kidsP (ns.getD i.toNat default)) i else -1
/-- As the specification says it. -/
def l3F (ns : List Pd) : Nat → Int → Int
  | 0, _ => -1
  | n + 1, i =>
    let d := ns.getD i.toNat default
    if i < 0 ∨ ¬ (1 ≤ d.K ∧ d.K ≤ 10) then -1
    else if d.K = 1 ∨ d.K = 2 then (if d.L ≠ 0 ∨ d.R ≠ 0 then -1 else i)
    else if hasR d.K = false then (if d.L ≠ i - 1 ∨ d.R ≠ 0 then -1 else l3F ns n (i - 1))
    else if d.R ≠ i - 1 then -1
    else if l3F ns n (i - 1) < 1 ∨ d.L ≠ l3F ns n (i - 1) - 1 then -1 else l3F ns n (l3F ns n (i - 1) - 1)
theorem l3F_neg (ns : List Pd) (n : Nat) {i : Int} (h : i < 0) : l3F ns n i = -1 := by
  cases n with
  | zero => rfl
  | succ n => simp only [l3F]; rw [if_pos (.inl h)]
theorem l3F_lo (ns : List Pd) : ∀ (n : Nat) (i : Int), -1 ≤ l3F ns n i
  | 0, i => by simp [l3F]
  | n + 1, i => by
    have h1 := l3F_lo ns n (i - 1)
    have h2 := l3F_lo ns n (l3F ns n (i - 1) - 1)
    simp only [l3F]
    repeat' split
    all_goals omega
theorem frN_eq (ns : List Pd) : ∀ (n : Nat) (i : Int), 0 ≤ i → frN ns n i = l3F ns n i
  | 0, i, _ => rfl
  | n + 1, i, hi => by
    have ih := frN_eq ns n
    obtain ⟨d, hd⟩ : ∃ d, d = ns.getD i.toNat default := ⟨_, rfl⟩
    simp only [frN, l3F]
    rw [← hd]
    have lo := l3F_lo ns n
    have ng := fun (j : Int) (h : j < 0) => l3F_neg ns n h
    obtain ⟨K, T, M, Ex, Exs, L, R⟩ := d
    by_cases hK : 1 ≤ K ∧ K ≤ 10
    case neg => rw [if_neg (by simp [formP, hK]), if_pos (.inr hK)]
    case pos =>
    rw [if_neg (show ¬ (i < 0 ∨ ¬ (1 ≤ K ∧ K ≤ 10)) by omega)]
    by_cases h0 : i < 1
    · have e : l3F ns n (i - 1) = -1 := ng _ (by omega)
      have c : K = 1 ∨ K = 2 ∨ (3 ≤ K ∧ hasR K = false) ∨ (3 ≤ K ∧ hasR K = true) := by
        cases hasR K <;> simp <;> omega
      rcases c with rfl | rfl | ⟨c, c2⟩ | ⟨c, c2⟩
      · simp [formP, kidsP, hasL, hasR, chain]; grind
      · simp [formP, kidsP, hasL, hasR, chain]; grind
      · have hl : hasL K = true := by simp [hasL]; omega
        simp [formP, kidsP, c2, hl, chain, h0, hK, e, show ¬ K = 1 by omega, show ¬ K = 2 by omega]
      · have hl : hasL K = true := by simp [hasL]; omega
        simp [formP, kidsP, c2, hl, chain, h0, hK, e, show ¬ K = 1 by omega, show ¬ K = 2 by omega]
    · have e := ih (i - 1) (by omega)
      have lo1 := lo (i - 1)
      have c : K = 1 ∨ K = 2 ∨ (3 ≤ K ∧ hasR K = false) ∨ (3 ≤ K ∧ hasR K = true) := by
        cases hasR K <;> simp <;> omega
      rcases c with rfl | rfl | ⟨c, c2⟩ | ⟨c, c2⟩
      · simp [formP, kidsP, hasL, hasR, chain]; grind
      · simp [formP, kidsP, hasL, hasR, chain]; grind
      · have hl : hasL K = true := by simp [hasL]; omega
        simp [formP, kidsP, c2, hl, chain, h0, hK, e, show ¬ K = 1 by omega, show ¬ K = 2 by omega]
        obtain ⟨a, ha⟩ : ∃ a, a = l3F ns n (i - 1) := ⟨_, rfl⟩
        rw [← ha] at lo1 ⊢
        clear ih lo ng e
        grind
      · have hl : hasL K = true := by simp [hasL]; omega
        simp only [formP, kidsP, c2, hl, chain, if_true, List.singleton_append, hK, e]
        obtain ⟨a, ha⟩ : ∃ a, a = l3F ns n (i - 1) := ⟨_, rfl⟩
        rw [← ha] at lo1 ⊢
        have e2 : 1 ≤ a → frN ns n (a - 1) = l3F ns n (a - 1) := fun h => ih _ (by omega)
        have lo2 := lo (a - 1)
        by_cases ha1 : 1 ≤ a
        · rw [e2 ha1]
          obtain ⟨b, hb⟩ : ∃ b, b = l3F ns n (a - 1) := ⟨_, rfl⟩
          rw [← hb] at lo2 ⊢
          clear ih lo ng e e2
          simp
          grind
        · clear ih lo ng e e2
          simp
          grind
end Go.Proofs.Ytfplalbognalkaa.Ab
/- Plans: widths, as the specification and as the program say it. -/
namespace Go.Proofs.Ytfplalbognalkaa.Ab
open Go
/-- The fields of a node that its kind does not use are 0 or empty, T and M right: the specification. -/
def usedS (d : Pd) (nt : Int) : Bool :=
  (decide (d.K = 2) || decide (d.T = 0)) && ((!decide (d.K = 2) || decide (0 ≤ d.T ∧ d.T < nt)) && ((decide (d.K = 8) || decide (d.M = 0)) && ((!decide (d.K = 8) || decide (1 ≤ d.M ∧ d.M ≤ 4)) &&
  (((decide (d.K = 3) || (decide (d.K = 7) || (decide (d.K = 8) && decide (d.M ≠ 1)))) || decide (d.Ex = [])) && (decide (d.K = 4) || decide (d.Exs = []))))))
/-- The same: the program (T is looked at later). -/
def usedI (d : Pd) : Bool :=
  (decide (d.K = 2) || decide (d.T = 0)) && ((decide (d.K = 8) || decide (d.M = 0)) && (((decide (d.K = 3) || (decide (d.K = 7) || (decide (d.K = 8) && decide (1 < d.M)))) || decide (d.Ex = [])) && ((decide (d.K = 4) || decide (d.Exs = [])) && (!decide (d.K = 8) || decide (1 ≤ d.M ∧ d.M ≤ 4)))))
/-- The width of a node over widths of its kids, in an environment; -1: not valid. -/
def ndS (d : Pd) (cols : Int → Int) (env l r : Int) : Int :=
  if d.K = 3 ∧ exOk d.Ex (env + l) = false then -1
  else if d.K = 4 ∧ (d.Exs.all fun e => exOk e (env + l)) = false then -1
  else if (d.K = 7 ∨ d.K = 8) ∧ d.M ≠ 1 ∧ exOk d.Ex (env + l + r) = false then -1
  else if d.K = 10 ∧ l ≠ r then -1
  else
    let w := if d.K = 2 then cols d.T else if d.K = 4 then (d.Exs.length : Int) else if d.K = 5 ∨ d.K = 6 then l + r else if d.K = 7 ∨ d.K = 8 then l + 1 else l
    if env + w > 200 then -1 else w
def wS (ns : List Pd) (nt : Int) (cols : Int → Int) : Nat → Int → Int → Int
  | 0, _, _ => -1
  | n + 1, i, env =>
    let d := ns.getD i.toNat default
    if usedS d nt = false then -1 else
    let l := if hasL d.K then wS ns nt cols n d.L env else 0
    if l < 0 then -1 else
    let r := if hasR d.K then wS ns nt cols n d.R (if depK d.K then env + l else env) else 0
    if r < 0 then -1 else ndS d cols env l r
/-- The program: none for nil. -/
def ndI (d : Pd) (nt : Int) (cols : Int → Int) (env l r : Int) : Option Int :=
  let w : Option Int :=
    if d.K = 1 then some 0
    else if d.K = 2 then (if d.T < 0 ∨ nt ≤ d.T then none else some (cols d.T))
    else if d.K = 3 then (if exOk d.Ex (env + l) = true then some l else none)
    else if d.K = 4 then (if (d.Exs.any fun e => !exOk e (env + l)) = false then some d.Exs.length else none)
    else if d.K = 5 ∨ d.K = 6 then some (l + r)
    else if d.K = 7 then (if exOk d.Ex (env + l + r) = true then some (l + 1) else none)
    else if d.K = 8 then (if d.M = 1 ∨ exOk d.Ex (env + l + r) = true then some (l + 1) else none)
    else if d.K = 9 then some l
    else if d.K = 10 then (if l = r then some l else none)
    else none
  match w with
  | none => none
  | some w => if w + env > 200 then none else some w
def wI (ns : List Pd) (nt : Int) (cols : Int → Int) : Nat → Int → Int → Option Int
  | 0, _, _ => none
  | n + 1, i, env =>
    let d := ns.getD i.toNat default
    if usedI d = false then none else
    match (if hasL d.K then wI ns nt cols n d.L env else some 0) with
    | none => none
    | some l => match (if hasR d.K then wI ns nt cols n d.R (if depK d.K then env + l else env) else some 0) with
      | none => none
      | some r => ndI d nt cols env l r
end Go.Proofs.Ytfplalbognalkaa.Ab
/- Plans: both widths are the same. -/
namespace Go.Proofs.Ytfplalbognalkaa.Ab
open Go
theorem nd_eq {d : Pd} {nt : Int} {cols : Int → Int} {env l r : Int} (hK : 1 ≤ d.K ∧ d.K ≤ 10) (hT : d.K = 2 → 0 ≤ d.T ∧ d.T < nt ∧ 0 ≤ cols d.T) (hl : 0 ≤ l) (hr : 0 ≤ r) (h0 : d.K = 1 → l = 0) (hM : d.K = 7 → d.M = 0) :
    ndI d nt cols env l r = if ndS d cols env l r < 0 then none else some (ndS d cols env l r) := by
  obtain ⟨K, T, M, Ex, Exs, L, R⟩ := d
  unfold ndI ndS
  simp only at hK hT h0 hM ⊢
  have ha : (Exs.any fun e => !exOk e (env + l)) = !(Exs.all fun e => exOk e (env + l)) := by rw [List.not_all_eq_any_not]
  rw [ha]
  obtain ⟨al, hal⟩ : ∃ b, b = Exs.all fun e => exOk e (env + l) := ⟨_, rfl⟩
  obtain ⟨e1, he1⟩ : ∃ b, b = exOk Ex (env + l) := ⟨_, rfl⟩
  obtain ⟨e2, he2⟩ : ∃ b, b = exOk Ex (env + l + r) := ⟨_, rfl⟩
  rw [← hal, ← he1, ← he2]
  clear hal he1 he2 ha
  have c : K = 1 ∨ K = 2 ∨ K = 3 ∨ K = 4 ∨ K = 5 ∨ K = 6 ∨ K = 7 ∨ K = 8 ∨ K = 9 ∨ K = 10 := by omega
  rcases c with rfl | rfl | rfl | rfl | rfl | rfl | rfl | rfl | rfl | rfl
  all_goals simp at hT h0 hM ⊢
  all_goals grind
theorem used_eq {d : Pd} {nt : Int} (h : d.K = 2 → 0 ≤ d.T ∧ d.T < nt) : usedS d nt = usedI d := by
  obtain ⟨K, T, M, Ex, Exs, L, R⟩ := d
  unfold usedS usedI
  simp only at h ⊢
  rw [Bool.eq_iff_iff]
  simp
  grind
end Go.Proofs.Ytfplalbognalkaa.Ab
/- Plans: both widths are the same, for all nodes. -/
namespace Go.Proofs.Ytfplalbognalkaa.Ab
open Go
/-- Kinds and kids of all nodes are in their ranges. -/
def InP (ns : List Pd) : Prop := ∀ j : Int, 0 ≤ j → j < ns.length → (1 ≤ (ns.getD j.toNat default).K ∧ (ns.getD j.toNat default).K ≤ 10) ∧ (hasL (ns.getD j.toNat default).K = true → 0 ≤ (ns.getD j.toNat default).L ∧ (ns.getD j.toNat default).L < j) ∧ (hasR (ns.getD j.toNat default).K = true → 0 ≤ (ns.getD j.toNat default).R ∧ (ns.getD j.toNat default).R < j)
theorem w_eq {ns : List Pd} {nt : Int} {cols : Int → Int} (hK : InP ns) (hc : ∀ t, 0 ≤ t → t < nt → 0 ≤ cols t) :
    ∀ (n : Nat) (i env : Int), 0 ≤ i → i < ns.length → wI ns nt cols n i env = if wS ns nt cols n i env < 0 then none else some (wS ns nt cols n i env)
  | 0, i, env, _, _ => by simp [wI, wS]
  | n + 1, i, env, hi0, hi1 => by
    have ih := w_eq hK hc n
    obtain ⟨hk, hkl, hkr⟩ := hK i hi0 hi1
    obtain ⟨d, hd⟩ : ∃ d, d = ns.getD i.toNat default := ⟨_, rfl⟩
    simp only [wI, wS]
    rw [← hd] at hk hkl hkr ⊢
    by_cases hT : d.K = 2 → 0 ≤ d.T ∧ d.T < nt
    case neg =>
      have h2 : d.K = 2 := by
        by_cases h : d.K = 2
        · exact h
        · exact absurd (fun q => absurd q h) hT
      have h3 : ¬ (0 ≤ d.T ∧ d.T < nt) := fun q => hT fun _ => q
      have h4 : usedS d nt = false := by simp [usedS, h2]; grind
      have h5 : hasL d.K = false := by simp [hasL, h2]
      have h6 : hasR d.K = false := by simp [hasR, h2]
      rw [h4, h5, h6]
      simp [ndI, h2]
      grind
    case pos =>
      rw [used_eq hT]
      cases hu : usedI d
      · simp
      · have hM : d.K = 7 → d.M = 0 := fun h => by simp [usedI, h] at hu; grind
        simp only [Bool.true_eq_false, if_false]
        obtain ⟨l, hl⟩ : ∃ l, l = if hasL d.K then wS ns nt cols n d.L env else 0 := ⟨_, rfl⟩
        have e1 : (if hasL d.K = true then wI ns nt cols n d.L env else some 0) = if l < 0 then none else some l := by
          rw [hl]
          cases hll : hasL d.K
          · simp
          · obtain ⟨a, b⟩ := hkl hll
            simp [ih d.L env a (by omega)]
        rw [e1, ← hl]
        by_cases hl0 : l < 0
        · simp [hl0]
        · rw [if_neg hl0]
          simp only
          obtain ⟨r, hr⟩ : ∃ r, r = if hasR d.K then wS ns nt cols n d.R (if depK d.K then env + l else env) else 0 := ⟨_, rfl⟩
          have e2 : (if hasR d.K = true then wI ns nt cols n d.R (if depK d.K then env + l else env) else some 0) = if r < 0 then none else some r := by
            rw [hr]
            cases hrr : hasR d.K
            · simp
            · obtain ⟨a, b⟩ := hkr hrr
              simp [ih d.R (if depK d.K then env + l else env) a (by omega)]
          rw [e2, ← hr]
          by_cases hr0 : r < 0
          · simp [hr0, hl0]
          · rw [if_neg hr0, if_neg hl0]
            simp only [hr0, if_false]
            exact nd_eq hk (fun h => ⟨(hT h).1, (hT h).2, hc _ (hT h).1 (hT h).2⟩) (by omega) (by omega) (fun h => by rw [hl]; simp [hasL, h]) hM
end Go.Proofs.Ytfplalbognalkaa.Ab
/- Names: valid, by the specification and by the program. -/
namespace Go.Proofs.Ytfplalbognalkaa.Ab
open Go
set_option maxRecDepth 100000 in
set_option maxHeartbeats 1000000 in
theorem ok163 (s : List UInt8) : Plain Try.prog 163 [.str s] (.bool (isWord s)) := okOf mixed p163 fun A P hA hP => (by
  obtain ⟨r, hr⟩ : ∃ r, r = isWord s := ⟨_, rfl⟩
  rw [← hr]
  cbv
  repeat' first | with_reducible rfl | with_reducible refine And.intro ?_ ?_ | ((with_reducible intro hcc); first | (cases hcc; done) | skip) | ((with_reducible show goC _ _ _ _ _ _ _ _); cbv) | ((with_reducible show goOps _ _ _ _ _); cbv) | ((with_reducible show goD _ _ _ _ _ _); cbv) | ((with_reducible show okWr _ _ = _); rfl) | ((with_reducible refine hA.fin_pl _ _ _ ?_); cbv) | ((with_reducible refine hA.slen _ _ _ _ _ fun z hz hb => ?_); cbv) | ((with_reducible refine hA.six _ _ _ fun z6 c hz6 hc hc2 => ?_); cbv) | ((with_reducible refine hA.sapp _ _ _ ⟨?_, fun sl hsl => ?_⟩); rotate_left; cbv) | ((with_reducible refine hA.gb0 true _ ?_); cbv) | ((with_reducible refine hA.gb0 false _ ?_); cbv) | ((with_reducible refine hA.gb _ _ fun vb hvb => ?_); cbv) | (simp only [hA.natLit, hA.natOf, hA.natCast]; cbv)
  all_goals try simp only [hA.add, hA.sub, hA.mul, hA.neg, hA.div, hA.mod, hA.mn, hA.mx, hA.eq, hA.lt, hA.le, hA.nat, hA.R, hA.lep, hA.ltp, hA.seq, inR, n_cast, Int.ofNat_eq_natCast, Option.getD_some, Option.getD_none] at *
  refine hA.loopI (fun n st => ∃ i : Int, 0 ≤ i ∧ n + i = s.length ∧ (∀ j : Nat, j < i → okAt s j = true) ∧ st = ⟨[(3, .int i), (2, .bool false), (0, .str s)], []⟩) s.length _
    (Weak.keep (env' := [(3, .int 0), (2, .bool false), (0, .str s)]) ⟨rfl, rfl, rfl, trivial⟩) ⟨0, by omega, by omega, fun j hj => by omega, rfl⟩ ?_
  rintro n st K ⟨i, h0, h1, h2, rfl⟩ hK
  by_cases hin : i < s.length
  · obtain ⟨cN, hcN⟩ : ∃ cN, cN = (s.getD i.toNat 0).toNat := ⟨_, rfl⟩
    have hch : chAt s i.toNat = (cN : Int) := by rw [chAt, hcN]
    have e102 := ok192 (cN : Int)
    have e103 := ok193 (cN : Int)
    obtain ⟨bl, hbl⟩ : ∃ b, b = isLet (cN : Int) := ⟨_, rfl⟩
    obtain ⟨bd, hbd⟩ : ∃ b, b = isDig (cN : Int) := ⟨_, rfl⟩
    rw [← hbl] at e102
    rw [← hbd] at e103
    obtain ⟨o, ho⟩ : ∃ o, o = okAt s i.toNat := ⟨_, rfl⟩
    have ho2 : o = (bl || (decide (i ≠ 0) && (bd || decide ((cN : Int) = 95)))) := by
      rw [ho, okAt, hch, ← hbl, ← hbd]
      have : decide (i.toNat ≠ 0) = decide (i ≠ 0) := by rw [decide_eq_decide]; omega
      rw [this]
    have f1 : o = false → r = false := fun e => by
      rw [hr, isWord, decide_eq_false_iff_not]
      intro ⟨_, q⟩
      have := q i.toNat (by omega)
      rw [← ho, e] at this
      cases this
    have f2 : o = true → ∀ s1, Weak (hpF []) s1 ⟨[(3, .int (i + 1)), (2, .bool false), (0, .str s)], []⟩ → K s1 := fun e s1 hw => by
      refine hK s1 (n - 1) _ (by omega) hw ⟨i + 1, by omega, by omega, fun j hj => ?_, rfl⟩
      by_cases hji : (j : Int) < i
      · exact h2 j hji
      · have : j = i.toNat := by omega
        rw [this, ← ho]; exact e
    clear hK h2 hr ho hbl hbd hch
    cbv
    repeat' first | with_reducible rfl | with_reducible refine And.intro ?_ ?_ | ((with_reducible intro hcc); first | (cases hcc; done) | skip) | ((with_reducible show goC _ _ _ _ _ _ _ _); cbv) | ((with_reducible show goOps _ _ _ _ _); cbv) | ((with_reducible show goD _ _ _ _ _ _); cbv) | ((with_reducible show okWr _ _ = _); rfl) | ((with_reducible refine callK_eq hA hP ?_ ?_ ?_ (Wks.refl _) (fun _ _ => e102)); exact rfl; exact rfl; cbv) | ((with_reducible refine callK_eq hA hP ?_ ?_ ?_ (Wks.refl _) (fun _ _ => e103)); exact rfl; exact rfl; cbv) | ((with_reducible refine hA.six _ _ _ fun z6 c hz6 hc hc2 => ?_); (have e6 : cN = c := (by rw [hc, hcN])); subst e6; cbv) | ((with_reducible refine hA.fin_pl _ _ _ ?_); cbv) | ((with_reducible refine hA.slen _ _ _ _ _ fun z hz hb => ?_); cbv) | ((with_reducible refine hA.six _ _ _ fun z6 c hz6 hc hc2 => ?_); cbv) | ((with_reducible refine hA.sapp _ _ _ ⟨?_, fun sl hsl => ?_⟩); rotate_left; cbv) | ((with_reducible refine hA.gb0 true _ ?_); cbv) | ((with_reducible refine hA.gb0 false _ ?_); cbv) | ((with_reducible refine hA.gb _ _ fun vb hvb => ?_); cbv) | (simp only [hA.natLit, hA.natOf, hA.natCast]; cbv)
    all_goals try simp only [hA.add, hA.sub, hA.mul, hA.neg, hA.div, hA.mod, hA.mn, hA.mx, hA.eq, hA.lt, hA.le, hA.nat, hA.R, hA.lep, hA.ltp, hA.seq, inR, n_cast, Int.ofNat_eq_natCast, Option.getD_some, Option.getD_none] at *
    all_goals first
      | omega
      | (refine f2 ?_ _ (Weak.keep ⟨rfl, rfl, rfl, trivial⟩); clear f2 f1 hcN hc; grind; done)
      | (rw [f1 (by clear f2 f1 hcN hc; grind)]; done)
      | (clear f2 f1 hcN hc; grind; done)
      | (clear f2 f1 hcN; simp at *; omega)
      | (trace_state; fail)
  · have hr2 : r = decide (0 < s.length) := by
      rw [hr, isWord, decide_eq_decide]
      exact ⟨fun q => q.1, fun q => ⟨q, fun j hj => h2 j (by omega)⟩⟩
    clear hr hK h2
    cbv
    repeat' first | with_reducible rfl | with_reducible refine And.intro ?_ ?_ | ((with_reducible intro hcc); first | (cases hcc; done) | skip) | ((with_reducible show goC _ _ _ _ _ _ _ _); cbv) | ((with_reducible show goOps _ _ _ _ _); cbv) | ((with_reducible show goD _ _ _ _ _ _); cbv) | ((with_reducible show okWr _ _ = _); rfl) | (exfalso; simp only [hA.lt, hA.sub, decide_eq_true_eq, decide_eq_false_iff_not, n_cast] at *; omega) | ((with_reducible refine hA.fin_pl _ _ _ ?_); cbv) | ((with_reducible refine hA.slen _ _ _ _ _ fun z hz hb => ?_); cbv) | ((with_reducible refine hA.six _ _ _ fun z6 c hz6 hc hc2 => ?_); cbv) | ((with_reducible refine hA.sapp _ _ _ ⟨?_, fun sl hsl => ?_⟩); rotate_left; cbv) | ((with_reducible refine hA.gb0 true _ ?_); cbv) | ((with_reducible refine hA.gb0 false _ ?_); cbv) | ((with_reducible refine hA.gb _ _ fun vb hvb => ?_); cbv) | (simp only [hA.natLit, hA.natOf, hA.natCast]; cbv)
    all_goals try simp only [hA.add, hA.sub, hA.mul, hA.neg, hA.div, hA.mod, hA.mn, hA.mx, hA.eq, hA.lt, hA.le, hA.nat, hA.R, hA.lep, hA.ltp, hA.seq, inR, n_cast, Int.ofNat_eq_natCast, Option.getD_some, Option.getD_none] at *
    all_goals first
      | (rw [hr2]; congr 3; rw [decide_eq_decide]; omega)
      | omega
      | (trace_state; fail))
theorem ok115 (s : List UInt8) : Plain Try.prog 115 [.str s] (.bool (nameB s)) := okOf mixed p115 fun A P hA hP => (by
  obtain ⟨w, hw⟩ : ∃ w, w = isWord s := ⟨_, rfl⟩
  obtain ⟨k, hk⟩ : ∃ k, k = keyB s := ⟨_, rfl⟩
  have h87 := ok163 s
  have h88 := ok164 s
  have hn : nameB s = (w && (decide (s.length ≤ 64) && !k)) := by rw [hw, hk]; rfl
  rw [hn]
  rw [← hw] at h87
  rw [← hk] at h88
  obtain ⟨n, hn⟩ : ∃ n, n = s.length := ⟨_, rfl⟩
  rw [← hn]
  clear hw hk
  cbv
  repeat' first | with_reducible rfl | with_reducible refine And.intro ?_ ?_ | ((with_reducible intro hcc); first | (cases hcc; done) | skip) | ((with_reducible show goC _ _ _ _ _ _ _ _); cbv) | ((with_reducible show goOps _ _ _ _ _); cbv) | ((with_reducible show goD _ _ _ _ _ _); cbv) | ((with_reducible show okWr _ _ = _); rfl) | ((with_reducible refine callK_eq hA hP ?_ ?_ ?_ (Wks.refl _) (fun _ _ => h87)); exact rfl; exact rfl; cbv) | ((with_reducible refine callK_eq hA hP ?_ ?_ ?_ (Wks.refl _) (fun _ _ => h88)); exact rfl; exact rfl; cbv) | ((with_reducible refine hA.fin_pl _ _ _ ?_); cbv) | ((with_reducible refine hA.slen _ _ _ _ _ fun z hz hb => ?_); cbv) | ((with_reducible refine hA.gb0 true _ ?_); cbv) | ((with_reducible refine hA.gb0 false _ ?_); cbv) | ((with_reducible refine hA.gb _ _ fun vb hvb => ?_); cbv) | (simp only [hA.natLit, hA.natOf, hA.natCast]; cbv)
  all_goals try simp only [hA.add, hA.sub, hA.mul, hA.neg, hA.div, hA.mod, hA.mn, hA.mx, hA.eq, hA.lt, hA.le, hA.nat, hA.R, hA.lep, hA.ltp, hA.seq, inR, n_cast, Int.ofNat_eq_natCast, Option.getD_some, Option.getD_none] at *
  all_goals first
    | omega
    | (clear h87 h88; grind; done)
    | (clear h87 h88; simp at *; grind; done)
    | (trace_state; fail))
end Go.Proofs.Ytfplalbognalkaa.Ab
/- Names: valid, by the program. -/
namespace Go.Proofs.Ytfplalbognalkaa.Ab
open Go
theorem nameB_false (s : List UInt8) : (s.length < 1 → nameB s = false) ∧ (64 < s.length → nameB s = false) ∧ (1 ≤ s.length → isLet (chAt s 0) = false → nameB s = false) ∧ (keyB s = true → nameB s = false) ∧
    (∀ j, j < s.length → isLet (chAt s j) = false → isDig (chAt s j) = false → chAt s j ≠ 95 → nameB s = false) ∧
    (1 ≤ s.length → s.length ≤ 64 → isLet (chAt s 0) = true → keyB s = false → (∀ j, j < s.length → (isLet (chAt s j) || (isDig (chAt s j) || decide (chAt s j = 95))) = true) → nameB s = true) := by
  have hw : ∀ j, j < s.length → okAt s j = false → isWord s = false := fun j hj e => by
    rw [isWord, decide_eq_false_iff_not]
    intro ⟨_, q⟩
    rw [q j hj] at e; cases e
  refine ⟨fun h => ?_, fun h => ?_, fun h e => ?_, fun h => ?_, fun j hj e1 e2 e3 => ?_, fun h1 h2 e1 e2 q => ?_⟩
  · have : isWord s = false := by rw [isWord, decide_eq_false_iff_not]; intro ⟨q, _⟩; omega
    simp [nameB, this]
  · simp [nameB, show ¬ s.length ≤ 64 by omega]
  · simp [nameB, hw 0 (by omega) (by simp [okAt, e])]
  · simp [nameB, h]
  · simp [nameB, hw j hj (by simp [okAt, e1, e2, e3])]
  · have : isWord s = true := by
      rw [isWord, decide_eq_true_eq]
      refine ⟨by omega, fun j hj => ?_⟩
      have := q j hj
      by_cases h0 : j = 0
      · subst h0; simp [okAt, e1]
      · simpa [okAt, h0] using this
    simp [nameB, this, h2, e2]
set_option maxRecDepth 100000 in
set_option maxHeartbeats 1000000 in
theorem ok119 (s : List UInt8) : Plain Try.prog 119 [.str s] (.bool (nameB s)) := okOf mixed p119 fun A P hA hP => (by
  obtain ⟨g1, g2, g3, g4, g5, g6⟩ := nameB_false s
  obtain ⟨r, hr⟩ : ∃ r, r = nameB s := ⟨_, rfl⟩
  rw [← hr] at g1 g2 g3 g4 g5 g6 ⊢
  obtain ⟨c0, hc0⟩ : ∃ c, c = (s.getD 0 0).toNat := ⟨_, rfl⟩
  have hch0 : chAt s 0 = (c0 : Int) := by rw [chAt, hc0]
  rw [hch0] at g3 g6
  obtain ⟨b0, hb0⟩ : ∃ b, b = isLet (c0 : Int) := ⟨_, rfl⟩
  have e90 := ok166 (c0 : Int)
  rw [← hb0] at g3 g6 e90
  have e91 := ok167 s
  obtain ⟨kb, hkb⟩ : ∃ b, b = keyB s := ⟨_, rfl⟩
  rw [← hkb] at g4 g6 e91
  clear hr hb0 hkb hch0
  cbv
  repeat' first | with_reducible rfl | with_reducible refine And.intro ?_ ?_ | ((with_reducible intro hcc); first | (cases hcc; done) | skip) | ((with_reducible show goC _ _ _ _ _ _ _ _); cbv) | ((with_reducible show goOps _ _ _ _ _); cbv) | ((with_reducible show goD _ _ _ _ _ _); cbv) | ((with_reducible show okWr _ _ = _); rfl) | ((with_reducible refine callK_eq hA hP ?_ ?_ ?_ (Wks.refl _) (fun _ _ => e90)); exact rfl; exact rfl; cbv) | ((with_reducible refine callK_eq hA hP ?_ ?_ ?_ (Wks.refl _) (fun _ _ => e91)); exact rfl; exact rfl; cbv) | ((with_reducible refine hA.six _ _ _ fun z6 c hz6 hc hc2 => ?_); (have e6 : c0 = c := (by rw [hc, hc0]; rfl)); subst e6; cbv) | ((with_reducible refine hA.fin_pl _ _ _ ?_); cbv) | ((with_reducible refine hA.slen _ _ _ _ _ fun z hz hb => ?_); cbv) | ((with_reducible refine hA.six _ _ _ fun z6 c hz6 hc hc2 => ?_); cbv) | ((with_reducible refine hA.sapp _ _ _ ⟨?_, fun sl hsl => ?_⟩); rotate_left; cbv) | ((with_reducible refine hA.gb0 true _ ?_); cbv) | ((with_reducible refine hA.gb0 false _ ?_); cbv) | ((with_reducible refine hA.gb _ _ fun vb hvb => ?_); cbv) | (simp only [hA.natLit, hA.natOf, hA.natCast]; cbv)
  all_goals try simp only [hA.add, hA.sub, hA.mul, hA.neg, hA.div, hA.mod, hA.mn, hA.mx, hA.eq, hA.lt, hA.le, hA.nat, hA.R, hA.lep, hA.ltp, hA.seq, inR, n_cast, Int.ofNat_eq_natCast, Option.getD_some, Option.getD_none] at *
  all_goals try (first
    | omega
    | (clear g1 g2 g3 g4 g5 g6 hc0; simp at *; omega)
    | (clear g1 g2 g3 g4 g5 g6; simp at *; grind; done))
  · have hfalse : r = false := by
      have q1 : (s.length : Int) < 1 ∨ 64 < (s.length : Int) ∨ (1 ≤ (s.length : Int) ∧ b0 = false) ∨ kb = true := by
        clear g1 g2 g3 g4 g5 g6
        simp at *
        grind
      rcases q1 with q | q | ⟨q, q'⟩ | q
      · exact g1 (by omega)
      · exact g2 (by omega)
      · exact g3 (by omega) q'
      · exact g4 q
    rw [hfalse]
  · have q1 : 1 ≤ (s.length : Int) ∧ (s.length : Int) ≤ 64 ∧ b0 = true ∧ kb = false := by
      clear g1 g2 g3 g4 g5 g6
      simp at *
      grind
    obtain ⟨q1, q2, q3, q4⟩ := q1
    refine hA.loopI (fun n st => ∃ i zz : Int, 0 ≤ i ∧ zz = s.length ∧ n + i = zz ∧ (∀ j : Nat, j < i → (isLet (chAt s j) || (isDig (chAt s j) || decide (chAt s j = 95))) = true) ∧ st = ⟨[(24, .int i), (23, .int zz), (2, .bool false), (0, .str s)], []⟩) s.length _
      (Weak.keep (env' := [(24, .int 0), (23, .int z), (2, .bool false), (0, .str s)]) ⟨rfl, rfl, rfl, rfl, trivial⟩) ⟨0, z, by omega, by omega, by omega, fun j hj => by omega, rfl⟩ ?_
    rintro n st K ⟨i, zz, h0, hz, h1, h2, rfl⟩ hK
    by_cases hin : i < zz
    · obtain ⟨cN, hcN⟩ : ∃ cN, cN = (s.getD i.toNat 0).toNat := ⟨_, rfl⟩
      have hch : chAt s i.toNat = (cN : Int) := by rw [chAt, hcN]
      have f90 := ok166 (cN : Int)
      have f92 := ok168 (cN : Int)
      have k5 := g5 i.toNat (by omega)
      rw [hch] at k5
      have k6 : (isLet (cN : Int) || (isDig (cN : Int) || decide ((cN : Int) = 95))) = true → ∀ s1, Weak (hpF []) s1 ⟨[(24, .int (i + 1)), (23, .int zz), (2, .bool false), (0, .str s)], []⟩ → K s1 := fun e s1 hw => by
        refine hK s1 (n - 1) _ (by omega) hw ⟨i + 1, zz, by omega, hz, by omega, fun j hj => ?_, rfl⟩
        by_cases hji : (j : Int) < i
        · exact h2 j hji
        · have : j = i.toNat := by omega
          rw [this, hch]; exact e
      obtain ⟨bl, hbl⟩ : ∃ b, b = isLet (cN : Int) := ⟨_, rfl⟩
      obtain ⟨bd, hbd⟩ : ∃ b, b = isDig (cN : Int) := ⟨_, rfl⟩
      rw [← hbl] at f90 k5 k6
      rw [← hbd] at f92 k5 k6
      clear hK h2 hbl hbd hch g1 g2 g3 g4 g5 g6 e90 e91 hvb q3 q4
      cbv
      repeat' first | with_reducible rfl | with_reducible refine And.intro ?_ ?_ | ((with_reducible intro hcc); first | (cases hcc; done) | skip) | ((with_reducible show goC _ _ _ _ _ _ _ _); cbv) | ((with_reducible show goOps _ _ _ _ _); cbv) | ((with_reducible show goD _ _ _ _ _ _); cbv) | ((with_reducible show okWr _ _ = _); rfl) | ((with_reducible refine callK_eq hA hP ?_ ?_ ?_ (Wks.refl _) (fun _ _ => f90)); exact rfl; exact rfl; cbv) | ((with_reducible refine callK_eq hA hP ?_ ?_ ?_ (Wks.refl _) (fun _ _ => f92)); exact rfl; exact rfl; cbv) | ((with_reducible refine hA.six _ _ _ fun z6 c hz6 hc hc2 => ?_); (have e6 : cN = c := (by rw [hc, hcN])); subst e6; cbv) | ((with_reducible refine hA.fin_pl _ _ _ ?_); cbv) | ((with_reducible refine hA.slen _ _ _ _ _ fun z hz hb => ?_); cbv) | ((with_reducible refine hA.six _ _ _ fun z6 c hz6 hc hc2 => ?_); cbv) | ((with_reducible refine hA.sapp _ _ _ ⟨?_, fun sl hsl => ?_⟩); rotate_left; cbv) | ((with_reducible refine hA.gb0 true _ ?_); cbv) | ((with_reducible refine hA.gb0 false _ ?_); cbv) | ((with_reducible refine hA.gb _ _ fun vb hvb => ?_); cbv) | (simp only [hA.natLit, hA.natOf, hA.natCast]; cbv)
      all_goals try simp only [hA.add, hA.sub, hA.mul, hA.neg, hA.div, hA.mod, hA.mn, hA.mx, hA.eq, hA.lt, hA.le, hA.nat, hA.R, hA.lep, hA.ltp, hA.seq, inR, n_cast, Int.ofNat_eq_natCast, Option.getD_some, Option.getD_none] at *
      all_goals first
        | omega
        | (refine k6 ?_ _ (Weak.keep ⟨rfl, rfl, rfl, rfl, trivial⟩); clear k6 k5 hcN hc; simp at *; grind; done)
        | (rw [k5 (by clear k6 k5 hcN; grind) (by clear k6 k5 hcN; grind) (by clear k6 k5 hcN; grind)]; done)
        | (clear k6 k5 hcN; simp at *; omega)
        | (clear k6 k5 hcN; grind; done)
        | (trace_state; fail)
    · have hr2 : r = true := g6 (by omega) (by omega) q3 q4 fun j hj => h2 j (by omega)
      clear hK h2 g1 g2 g3 g4 g5 g6
      cbv
      repeat' first | with_reducible rfl | with_reducible refine And.intro ?_ ?_ | ((with_reducible intro hcc); first | (cases hcc; done) | skip) | ((with_reducible show goC _ _ _ _ _ _ _ _); cbv) | ((with_reducible show goOps _ _ _ _ _); cbv) | ((with_reducible show goD _ _ _ _ _ _); cbv) | ((with_reducible show okWr _ _ = _); rfl) | (exfalso; simp only [hA.lt, hA.sub, decide_eq_true_eq, decide_eq_false_iff_not, n_cast] at *; omega) | ((with_reducible refine hA.fin_pl _ _ _ ?_); cbv) | ((with_reducible refine hA.slen _ _ _ _ _ fun z hz hb => ?_); cbv) | ((with_reducible refine hA.six _ _ _ fun z6 c hz6 hc hc2 => ?_); cbv) | ((with_reducible refine hA.sapp _ _ _ ⟨?_, fun sl hsl => ?_⟩); rotate_left; cbv) | ((with_reducible refine hA.gb0 true _ ?_); cbv) | ((with_reducible refine hA.gb0 false _ ?_); cbv) | ((with_reducible refine hA.gb _ _ fun vb hvb => ?_); cbv) | (simp only [hA.natLit, hA.natOf, hA.natCast]; cbv)
      all_goals try simp only [hA.add, hA.sub, hA.mul, hA.neg, hA.div, hA.mod, hA.mn, hA.mx, hA.eq, hA.lt, hA.le, hA.nat, hA.R, hA.lep, hA.ltp, hA.seq, inR, n_cast, Int.ofNat_eq_natCast, Option.getD_some, Option.getD_none] at *
      all_goals first
        | (rw [hr2]; done)
        | omega
        | (trace_state; fail))
end Go.Proofs.Ytfplalbognalkaa.Ab
/- One outcome: a walk's result, drawn out ahead of the call. -/
namespace Go.Proofs.Ytfplalbognalkaa.Ab
open Go
/-- What code does from a state: at most one outcome. -/
def SO (P : Program) (h0 : Hp) (nt : Nat) (code : Code) (s : St) (o : Option (Exit × St)) : Prop :=
  ∀ (w0 : World) (G0 : Gh) a w G, SR ⟨w0, G0, h0, nt⟩ s a w G → code.wp P (fun e a' w' => ∃ s', o = some (e, s') ∧ ∃ G', SR ⟨w0, G0, h0, nt⟩ s' a' w' G') a w
def KO (Kn : St → Prop) (Ke : Nat → St → Prop) (Kr : St → Prop) : Option (Exit × St) → Prop
  | none => True
  | some (.normal, s) => Kn s
  | some (.exit i, s) => Ke i s
  | some (.ret, s) => Kr s
  | _ => False
theorem list_lin {P : Program} {h0 : Hp} {nt : Nat} {ops : Array Oper} {K : St → Prop} : ∀ (l : List Oper) s, goOps Ar.std P (l.map (prepIns P nt ops)) s K →
    ∃ o : Option St, (∀ s', o = some s' → K s') ∧ ∀ (Q : Exit → Act → World → Prop) w0 G0 a w G, SR ⟨w0, G0, h0, nt⟩ s a w G → (∀ s' a w G, o = some s' → SR ⟨w0, G0, h0, nt⟩ s' a w G → Q .normal a w) → wpList P ops Q l a w := by
  intro l
  induction l with
  | nil => intro s h; exact ⟨some s, fun s' e => by cases e; exact h, fun Q w0 G0 a w G x hq => wpList_nil (hq s a w G rfl x)⟩
  | cons o r ih =>
    intro s h
    by_cases hx : ∃ w0 G0 a w G, SR ⟨w0, G0, h0, nt⟩ s a w G
    case neg => exact ⟨none, fun s' e => (by cases e), fun Q w0 G0 a w G x _ => absurd ⟨w0, G0, a, w, G, x⟩ hx⟩
    obtain ⟨w00, G00, a0, w0, G0, x0⟩ := hx
    simp only [List.map_cons, goOps, opA_std] at h
    unfold prepIns at h
    split at h
    · rename_i g hg
      split at h
      · rename_i hdst
        obtain ⟨gd, g', h, hgd, hwant⟩ := guard_spec0 hg h
        obtain ⟨ow, eff, ⟨how, hwr, hk'⟩, h1, h2, h3⟩ := op_sound (fun _ => ⟨w0, G0, hpF s.hp, a0, x0.rels⟩) h
        obtain ⟨o', q1, q2⟩ := ih _ hk'
        refine ⟨o', q1, fun Q w1 G1 a w G x hq => wpList_step fun K' hK' => ?_⟩
        have hwant := hwant w G (hpF s.hp) a fun t d _ ht => x.rel t d ht
        split
        · rename_i hw
          rw [hw] at hwant; subst hwant
          refine h3 how rfl w G (hpF s.hp) a K' Q x.inv (fun _ _ => rfl) (fun j hj => hpF_ge (by omega)) x.rels fun v w' G' hv hi he => hK' _ _ ?_
          exact q2 Q _ _ _ _ G' (x.app hdst hwr hv hi he) hq
        · rename_i hw
          have hg' : g' = false := by rw [← hwant]; simpa using hw
          subst hg'
          obtain ⟨e1, e2, d, e3⟩ := h1 (hgd rfl) rfl
          refine hK' _ _ (q2 Q _ _ _ _ G ?_ hq)
          have e4 : happ (hpF s.hp) s.hp.length eff = hpF s.hp := by
            rw [happ_app hwr, e1, e2]; simp [hset]
          refine x.app hdst hwr (fun d' hd' => ?_) (by rw [e4]; exact x.inv) (by rw [e4]; exact Ext.refl _ _ _)
          rw [e3] at hd'; cases hd'
          exact .when (by simp) (fun _ => rfl)
      · exact (by simp [guardOf, opE] at h : False).elim
    · exact (by simp [guardOf, opE] at h : False).elim
theorem dreg_lin {P : Program} {h0 : Hp} {nt : Nat} {ops : Array Oper} {K : St → Prop} {s : St} {id : Nat} (hm : P.follows .mixedOrders = true)
    (h : goD Ar.std P (prepDs P nt ops (ancs ops.toList []) 0 ops.toList) [] s K) :
    ∃ s', K s' ∧ ∀ (Q : Exit → Act → World → Prop) w0 G0 a w G, SR ⟨w0, G0, h0, nt⟩ s a w G → (∀ a w G, SR ⟨w0, G0, h0, nt⟩ s' a w G → Q .normal a w) → (Code.region id ops true).wp P Q a w := by
  obtain ⟨recs, q1, q2, q3, q4⟩ := goD_spec _ 0 [] s h rfl
  have F : Facts P nt ops (ancs ops.toList []) s recs := {
    len := by simpa using q1
    ok := q2
    step := fun j o r ho hr => by
      obtain ⟨a1, a2, a3, a4, a5, _⟩ := q4 j o r (by simpa using ho) hr
      exact ⟨a1, a2, a3, a4, by simpa using a5⟩
    un := fun j k o r x y ho hr hx hy hk => by
      obtain ⟨_, _, _, _, _, a6⟩ := q4 j o r (by simpa using ho) hr
      obtain ⟨⟨x', h1, h2⟩, y', h3, h4⟩ := a6 k (by simpa using hk)
      rw [hx] at h1; cases h1
      rw [List.nil_append, hy] at h3; cases h3
      exact ⟨h2, h4⟩
    anc := ancs_spec ops.toList [] (fun j => by simp) (fun j ks h => by simp at h) }
  refine ⟨runR s recs, q3, fun Q w0 G0 a w G x hq => wp_region_any hm ?_⟩
  obtain ⟨i0, x0⟩ := drew_step x.inv
  have hfalse : ∀ k, (Array.replicate ops.size false).getD k false = false := fun k => by
    simp only [Array.getD]
    split <;> simp
  have e0 : hS s recs (fun k => (Array.replicate ops.size false).getD k false) = hpF s.hp := by
    funext i
    exact lastS_none _ _ _ fun j _ h => by rw [hfalse] at h; cases h
  have e1 : ∀ t, eS s recs (fun k => (Array.replicate ops.size false).getD k false) t = look t s.env := fun t => lastS_none _ _ _ fun j _ h => by rw [hfalse] at h; cases h
  refine any_sound (c := ⟨w0, G0, h0, nt⟩) F (fun a w G x => hq a w G x) ops.size _ a _ G (by simp) (by simp) (fun i o _ h => by have := hfalse i; simp only [this] at h; cases h) ⟨x.defers, x.size, by rw [e0]; exact i0, by rw [e0]; exact x.ext.trans x0, fun t d h => ?_⟩
  rw [e0]
  rw [e1] at h
  exact (x.rel t d h).ext x0
theorem goC_lin {P : Program} {h0 : Hp} {nt : Nat} (hm : P.follows .mixedOrders = true) : ∀ (code : Code) {Kn : St → Prop} {Ke : Nat → St → Prop} {Kr : St → Prop} (s : St),
    goC Ar.std P h0 (prepC P nt code) Kn Ke Kr s → ∃ o, KO Kn Ke Kr o ∧ SO P h0 nt code s o := by
  intro code
  induction code with
  | skip => intro Kn Ke Kr s h; exact ⟨some (.normal, s), h, fun w0 G0 a w G x => wp_skip ⟨s, rfl, G, x⟩⟩
  | region id ops dr =>
    intro Kn Ke Kr s h
    cases dr with
    | false =>
      obtain ⟨o, q1, q2⟩ := list_lin (h0 := h0) _ s h
      cases o with
      | none => exact ⟨none, trivial, fun w0 G0 a w G x => wp_region_list (q2 _ w0 G0 a w G x fun s' a w G e => by cases e)⟩
      | some s1 => exact ⟨some (.normal, s1), q1 _ rfl, fun w0 G0 a w G x => wp_region_list (q2 _ w0 G0 a w G x fun s' a w G e x' => by cases e; exact ⟨s1, rfl, G, x'⟩)⟩
    | true =>
      obtain ⟨s1, q1, q2⟩ := dreg_lin (h0 := h0) (id := id) hm h
      exact ⟨some (.normal, s1), q1, fun w0 G0 a w G x => q2 _ w0 G0 a w G x fun a w G x' => ⟨s1, rfl, G, x'⟩⟩
  | seq y z ihy ihz =>
    intro Kn Ke Kr s h
    obtain ⟨o, q1, q2⟩ := ihy s h
    match o, q1, q2 with
    | none, _, q2 => exact ⟨none, trivial, fun w0 G0 a w G x => wp_seq (wp_mono (q2 w0 G0 a w G x) fun e a w ⟨s', h, _⟩ => by cases h)⟩
    | some (.normal, s1), q1, q2 =>
      obtain ⟨o2, q3, q4⟩ := ihz s1 q1
      exact ⟨o2, q3, fun w0 G0 a w G x => wp_seq (wp_mono (q2 w0 G0 a w G x) fun e a w ⟨s', h, G', x'⟩ => by cases h; exact q4 w0 G0 a w G' x')⟩
    | some (.exit i, s1), q1, q2 => exact ⟨some (.exit i, s1), q1, fun w0 G0 a w G x => wp_seq (wp_mono (q2 w0 G0 a w G x) fun e a w ⟨s', h, G', x'⟩ => by cases h; exact ⟨s1, rfl, G', x'⟩)⟩
    | some (.ret, s1), q1, q2 => exact ⟨some (.ret, s1), q1, fun w0 G0 a w G x => wp_seq (wp_mono (q2 w0 G0 a w G x) fun e a w ⟨s', h, G', x'⟩ => by cases h; exact ⟨s1, rfl, G', x'⟩)⟩
  | cond y p q ihp ihq =>
    intro Kn Ke Kr s h
    simp only [prepC] at h
    split at h
    · rename_i y' hy
      simp only [goC] at h
      split at h
      · rename_i c' hc'
        have ev : ∀ w0 G0 a w G, SR ⟨w0, G0, h0, nt⟩ s a w G → a.eval y = .bool c' := fun w0 G0 a w G x => (rv_v (x.rels y y' _ hy hc')).1
        cases c' with
        | true =>
          obtain ⟨o, q1, q2⟩ := ihp s (h.1 rfl)
          exact ⟨o, q1, fun w0 G0 a w G x => wp_cond_true (ev w0 G0 a w G x) (q2 w0 G0 a w G x)⟩
        | false =>
          obtain ⟨o, q1, q2⟩ := ihq s (h.2 rfl)
          exact ⟨o, q1, fun w0 G0 a w G x => wp_cond_false (ev w0 G0 a w G x) (q2 w0 G0 a w G x)⟩
      · exact h.elim
    · exact h.elim
  | block id y ih =>
    intro Kn Ke Kr s h
    obtain ⟨o, q1, q2⟩ := ih s h
    match o, q1, q2 with
    | none, _, q2 => exact ⟨none, trivial, fun w0 G0 a w G x => wp_block (wp_mono (q2 w0 G0 a w G x) fun e a w ⟨s', h, _⟩ => by cases h)⟩
    | some (.normal, s1), q1, q2 => exact ⟨some (.normal, s1), q1, fun w0 G0 a w G x => wp_block (wp_mono (q2 w0 G0 a w G x) fun e a w ⟨s', h, G', x'⟩ => by cases h; exact ⟨s1, rfl, G', x'⟩)⟩
    | some (.exit i, s1), q1, q2 =>
      by_cases e : i = id
      · simp only [KO, if_pos e] at q1
        exact ⟨some (.normal, s1), q1, fun w0 G0 a w G x => wp_block (wp_mono (q2 w0 G0 a w G x) fun e' a w ⟨s', h, G', x'⟩ => by cases h; simp only [Exit.inBlock, if_pos e]; exact ⟨s1, rfl, G', x'⟩)⟩
      · simp only [KO, if_neg e] at q1
        exact ⟨some (.exit i, s1), q1, fun w0 G0 a w G x => wp_block (wp_mono (q2 w0 G0 a w G x) fun e' a w ⟨s', h, G', x'⟩ => by cases h; simp only [Exit.inBlock, if_neg e]; exact ⟨s1, rfl, G', x'⟩)⟩
    | some (.ret, s1), q1, q2 => exact ⟨some (.ret, s1), q1, fun w0 G0 a w G x => wp_block (wp_mono (q2 w0 G0 a w G x) fun e a w ⟨s', h, G', x'⟩ => by cases h; exact ⟨s1, rfl, G', x'⟩)⟩
  | loop y ih =>
    intro Kn Ke Kr s h
    obtain ⟨I, ⟨n, s1, hw, hi⟩, hs⟩ := h
    have key : ∀ n s, I n s → ∃ o, KO (fun _ => False) Ke Kr o ∧ ∃ m, ∀ w0 G0 a w G, SR ⟨w0, G0, h0, nt⟩ s a w G → Code.rounds P y (fun e a' w' => ∃ s', o = some (e, s') ∧ ∃ G', SR ⟨w0, G0, h0, nt⟩ s' a' w' G') m a w := by
      intro n
      induction n using Nat.strongRecOn with
      | _ n ihn =>
        intro s hi
        obtain ⟨o, q1, q2⟩ := ih s (hs n s hi)
        match o, q1, q2 with
        | none, _, q2 => exact ⟨none, trivial, 1, fun w0 G0 a w G x => by rw [rounds_succ]; exact wp_mono (q2 w0 G0 a w G x) fun e a w ⟨s', h, _⟩ => by cases h⟩
        | some (.normal, s2), ⟨m, s3, hlt, hw, hi2⟩, q2 =>
          obtain ⟨o2, q3, m2, q4⟩ := ihn m hlt s3 hi2
          refine ⟨o2, q3, m2 + 1, fun w0 G0 a w G x => ?_⟩
          rw [rounds_succ]
          refine wp_mono (q2 w0 G0 a w G x) fun e a w ⟨s', h, G', x'⟩ => ?_
          cases h
          obtain ⟨G3, x3⟩ := x'.weak hw
          exact q4 w0 G0 a w G3 x3
        | some (.exit i, s2), q1, q2 => exact ⟨some (.exit i, s2), q1, 1, fun w0 G0 a w G x => by rw [rounds_succ]; exact wp_mono (q2 w0 G0 a w G x) fun e a w ⟨s', h, G', x'⟩ => by cases h; exact ⟨s2, rfl, G', x'⟩⟩
        | some (.ret, s2), q1, q2 => exact ⟨some (.ret, s2), q1, 1, fun w0 G0 a w G x => by rw [rounds_succ]; exact wp_mono (q2 w0 G0 a w G x) fun e a w ⟨s', h, G', x'⟩ => by cases h; exact ⟨s2, rfl, G', x'⟩⟩
    obtain ⟨o, q1, m, q2⟩ := key n s1 hi
    refine ⟨o, ?_, fun w0 G0 a w G x => ?_⟩
    · match o, q1 with
      | none, _ => trivial
      | some (.exit i, s2), q1 => exact q1
      | some (.ret, s2), q1 => exact q1
    · obtain ⟨G1, x1⟩ := x.weak hw
      exact wp_loop_rounds m (q2 w0 G0 a w G1 x1)
  | exit id => intro Kn Ke Kr s h; exact ⟨some (.exit id, s), h, fun w0 G0 a w G x => wp_exit ⟨s, rfl, G, x⟩⟩
  | ret => intro Kn Ke Kr s h; exact ⟨some (.ret, s), h, fun w0 G0 a w G x => wp_ret ⟨s, rfl, G, x⟩⟩
  | _ => intro Kn Ke Kr s h; exact h.elim
theorem evG_lin {g : Bool} {x : Option D} {K : Prop → D → Prop} (h : evG g x K) : ∃ o d, K o d ∧ ∀ K' : Prop → D → Prop, K' o d → evG g x K' := by
  unfold evG at h
  split at h
  · exact h.elim
  · exact ⟨_, _, h, fun K' h => h⟩
  · exact ⟨_, _, h, fun K' h => (by rename_i d hd; unfold evG; split <;> simp_all)⟩
theorem resK_lin {s : St} : ∀ (l : List RV) {K : Prop → List D → Prop}, resK s l K → ∃ o ds, K o ds ∧ ∀ K' : Prop → List D → Prop, K' o ds → resK s l K'
  | [], K, h => ⟨_, _, h, fun K' h => h⟩
  | .tmp t :: r, K, h => by
    simp only [resK] at h ⊢
    obtain ⟨o, d, h1, h2⟩ := evG_lin h
    obtain ⟨o', ds, h3, h4⟩ := resK_lin r h1
    exact ⟨_, _, h3, fun K' q => h2 _ (h4 _ q)⟩
  | .cell t agg n :: r, K, h => by
    simp only [resK] at h ⊢
    split at h
    case h_2 => exact h.elim
    rename_i i off hb
    split at h
    case h_2 => exact h.elim
    rename_i bs hbx
    obtain ⟨o', ds, h3, h4⟩ := resK_lin r h
    cases agg with
    | true => exact ⟨_, _, h3, fun K' q => h4 _ q⟩
    | false => exact ⟨_, _, h3, fun K' q => h4 _ q⟩
/-- A walk with a choice at its end has chosen ahead of it. -/
theorem callOK_lin {P : Program} (hm : P.follows .mixedOrders = true) {fn : FuncId} {f : F} (hf : prepF P fn = some f) {args : List D} {l0 : List O} {R : D → List O → Prop} (h : goF Ar.std P f args l0 R) :
    CallOK P fn args l0 (fun _ _ => False) ∨ ∃ d l, R d l ∧ CallOK P fn args l0 fun d' l' => d' = d ∧ l' = l := by
  have hf0 := hf
  simp only [prepF, Option.bind_eq_some_iff, Option.map_eq_some_iff] at hf
  obtain ⟨fu, h1, b, h2, r, h3, rfl⟩ := hf
  obtain ⟨hn, hc⟩ := h
  simp only at hn hc
  have sr : ∀ (w : World) (G : Gh) (vs : Array Value), Inv w G (hpF l0) → vs.size = args.length → (∀ (j : Nat) v d, vs[j]? = some v → args[j]? = some d → Rv w G (hpF l0) v d) →
      SR ⟨w, G, hpF l0, fu.ntmps⟩ ⟨envOf 0 args, l0⟩ { tmps := vs ++ Array.replicate (fu.ntmps - vs.size) undef, defers := [] } w G := fun w G vs hi hs hr => {
    defers := rfl
    size := by simp; omega
    inv := hi
    ext := Ext.refl _ _ _
    rel := fun t d ht => by
      obtain ⟨_, hd⟩ := look_envOf args 0 t d ht
      rw [Nat.sub_zero] at hd
      have hlt : t < args.length := (List.getElem?_eq_some_iff.1 hd).1
      have hv : (vs ++ Array.replicate (fu.ntmps - vs.size) undef).getD t undef = vs[t]'(by omega) := by
        simp [Array.getD, show t < vs.size by omega]
        intro h; omega
      show Rv w G _ ((vs ++ Array.replicate (fu.ntmps - vs.size) undef).getD t undef) d
      rw [hv]
      exact hr t _ d (by simp [show t < vs.size by omega]) hd }
  by_cases hx : ∃ (w : World) (G : Gh) (vs : Array Value), Inv w G (hpF l0) ∧ vs.size = args.length ∧ (∀ (j : Nat) v d, vs[j]? = some v → args[j]? = some d → Rv w G (hpF l0) v d)
  case neg => exact .inl fun w G vs hi hs hr => absurd ⟨w, G, vs, hi, hs, hr⟩ hx
  obtain ⟨o, q1, q2⟩ := goC_lin hm b _ hc
  have fin : ∀ s, finK r R s → ∃ d, R d s.hp ∧ finK r (fun d' l' => d' = d ∧ l' = s.hp) s := fun s h => by
    obtain ⟨o, ds, ⟨k1, k2⟩, k3⟩ := resK_lin r h
    exact ⟨_, k2, k3 _ ⟨k1, rfl, rfl⟩⟩
  match o, q1, q2 with
  | none, _, q2 => exact .inl fun w G vs hi hs hr => calls_of_wp h1 h2 (wp_mono (q2 _ _ _ _ _ (sr w G vs hi hs hr)) fun e a w ⟨s', h, _⟩ => by cases h)
  | some (.normal, s1), q1, q2 =>
    obtain ⟨d, k1, k2⟩ := fin s1 q1
    refine .inr ⟨d, s1.hp, k1, fun w G vs hi hs hr => calls_of_wp h1 h2 (wp_mono (q2 _ _ _ _ _ (sr w G vs hi hs hr)) fun e a w' ⟨s', h, G', x'⟩ => ?_)⟩
    cases h
    obtain ⟨v, d', e1, ⟨e2, e3⟩, e4⟩ := fin_spec x' h3 k2
    exact ⟨x'.defers, v, e1, v, d', s1.hp, G', rfl, ⟨e2, rfl⟩, e4, x'.inv, x'.ext⟩
  | some (.ret, s1), q1, q2 =>
    obtain ⟨d, k1, k2⟩ := fin s1 q1
    refine .inr ⟨d, s1.hp, k1, fun w G vs hi hs hr => calls_of_wp h1 h2 (wp_mono (q2 _ _ _ _ _ (sr w G vs hi hs hr)) fun e a w' ⟨s', h, G', x'⟩ => ?_)⟩
    cases h
    obtain ⟨v, d', e1, ⟨e2, e3⟩, e4⟩ := fin_spec x' h3 k2
    exact ⟨x'.defers, v, e1, v, d', s1.hp, G', rfl, ⟨e2, rfl⟩, e4, x'.inv, x'.ext⟩
theorem CallOK.mono {P : Program} {fn : FuncId} {args : List D} {l0 : List O} {R R' : D → List O → Prop} (h : CallOK P fn args l0 R) (hr : ∀ d l, R d l → R' d l) : CallOK P fn args l0 R' := by
  intro w G vs a b c
  exact (h w G vs a b c).mono fun e w' ⟨v, d', l', G', q1, q2, q3⟩ => ⟨v, d', l', G', q1, hr _ _ q2, q3⟩
/-- A contract with some result. -/
theorem okEx {α : Type} {Q : Program} (hm : Q.follows .mixedOrders = true) {fn : FuncId} {f : F} {args : List D} (R : α → Prop) (d : α → D) (hf : prepF Q fn = some f) (hne : ∃ x, R x)
    (h : ∀ (A : Ar) (P : Program), A.Ok → P = Q → goF A P f args [] fun d' l => ∃ x, R x ∧ A.fin l d' (d x)) (hd : ∀ x, (d x).free = true := by intros; rfl) : ∃ x, R x ∧ Plain Q fn args (d x) := by
  rcases callOK_lin hm hf (h Ar.std Q Ar.std_ok rfl) with h | ⟨d', l, ⟨x, hx, h1⟩, h2⟩
  · obtain ⟨x, hx⟩ := hne
    exact ⟨x, hx, h.mono fun _ _ h => h.elim⟩
  · exact ⟨x, hx, h2.mono fun d2 l2 ⟨e1, e2⟩ => by subst e1; subst e2; exact h1 (hd x)⟩
theorem procEx {α : Type} {Q : Program} (hm : Q.follows .mixedOrders = true) {fn : FuncId} {f : F} {args : RF → List D} {l0 : RF → List O} (R : α → Prop) (d : α → RF → D) (l : α → RF → List O) (hf : prepF Q fn = some f) (hne : ∃ x, R x) (side : ∀ x, R x → Side args l0 (d x) (l x))
    (h : ∀ (A : Ar) (P : Program), A.Ok → P = Q → goF A P f (args id) (l0 id) fun d' l' => ∃ x, R x ∧ A.finv (l0 id) l' d' (l x id) (d x id)) : ∃ x, R x ∧ Proc Q fn args l0 (d x) (l x) := by
  rcases callOK_lin hm hf (h Ar.std Q Ar.std_ok rfl) with h | ⟨d', l', ⟨x, hx, h1⟩, h2⟩
  · obtain ⟨x, hx⟩ := hne
    exact ⟨x, hx, side x hx, h.mono fun _ _ h => h.elim⟩
  · exact ⟨x, hx, side x hx, h2.mono fun d2 l2 ⟨e1, e2⟩ => by subst e1; subst e2; exact h1⟩
end Go.Proofs.Ytfplalbognalkaa.Ab
/- What is written in place is handed on: lent to a call that only looks, or published. -/
namespace Go.Proofs.Ytfplalbognalkaa.Ab
open Go
/-- What is handed back is taken for less, twice. -/
theorem FinV.trans {l0 l1 l2 l3 : List O} {d1 d2 d3 : D} (a : FinV l0 l1 d1 l2 d2) (b : FinV l0 l2 d2 l3 d3) : FinV l0 l1 d1 l3 d3 := by
  intro w G v hi hr
  obtain ⟨G1, r1, i1, e1⟩ := a w G v hi hr
  obtain ⟨G2, r2, i2, e2⟩ := b w G1 v i1 r1
  exact ⟨G2, r2, i2, fun w0 G0 e => e2 _ _ (e1 _ _ e)⟩
/-- A slice that is written in place is published. -/
theorem take_get {ds : List D} {m : Nat} {xs : List E} (h : ds.take m = xs.map .e) {j : Nat} {d : E} (hd : xs[j]? = some d) (hj : j < m) : ds[j]? = some (.e d) := by
  have := congrArg (·[j]?) h
  simp only [List.getElem?_take, if_pos hj, List.getElem?_map, hd] at this
  exact this
theorem vec_pub {w : World} {G : Gh} {h h' : Hp} {i k : Nat} {b : Bool} {ds : List D} {es : List (List E)} (hi : Inv w G h) (hb : h i = .vec b k ds) (hds : ds.take (es.length * k) = es.flatten.map .e) (hk : ∀ e ∈ es, e.length = k) (h1 : h' i = .gone) (h2 : ∀ j, j ≠ i → h' j = h j) :
    ∃ G', Inv w G' h' ∧ Ext w G h w G' h' ∧ ∀ v, Rv w G h v (.vec i es.length k) → Rv w G' h' v (.e (.sl es)) := by
  have hlt : b = true → G.blk i < w.heap.size := fun e => hi.lt i (by rw [hb]; exact e)
  have hfl : es.flatten.length = es.length * k := flatten_len hk
  have hap : ∀ j, j ≠ i → (h j).has = true → b = true → G.blk j ≠ G.blk i := fun j hj hh hbt e => hj (hi.inj _ _ hh (by rw [hb]; exact hbt) e)
  have x : Ext w G h w ⟨fun x o => G.pub x o ∨ (b = true ∧ x = G.blk i ∧ o < es.length * k), G.blk⟩ h' := {
    os := rfl
    tape := rfl
    output := rfl
    size := Nat.le_refl _
    pub := fun _ _ p => ⟨.inl p, rfl⟩
    box := fun j ds e => by
      have : j ≠ i := fun q => by rw [q, hb] at e; cases e
      exact ⟨⟨ds, by rw [h2 j this, e], rfl⟩, rfl⟩
    tok := fun j n k e => by
      have : j ≠ i := fun q => by rw [q, hb] at e; cases e
      exact ⟨n, by rw [h2 j this, e], Nat.le_refl _, fun _ _ => ⟨rfl, rfl⟩⟩
    others := fun _ _ _ => rfl
    new := fun j hj => by
      have : j ≠ i := fun q => by rw [q, h1] at hj; cases hj
      rw [h2 j this] at hj
      exact .inl ⟨j, hj, rfl⟩
    pubnew := fun x o p => by
      rcases p with p | ⟨hbt, rfl, _⟩
      · exact .inl p
      · exact .inr (.inr ⟨i, by rw [hb]; exact hbt, rfl⟩)
    vec := fun j b k ds e => by
      by_cases q : j = i
      · subst q; exact .inl h1
      · exact .inr ⟨ds, by rw [h2 j q, e], Nat.le_refl _, fun _ => ⟨rfl, rfl⟩⟩
    gone := fun j e => by
      have : j ≠ i := fun q => by rw [q, hb] at e; cases e
      rw [h2 j this, e]
    smap := fun j l e => by
      have : j ≠ i := fun q => by rw [q, hb] at e; cases e
      exact ⟨⟨l, by rw [h2 j this, e]⟩, rfl⟩ }
  refine ⟨_, ⟨fun j hj => ?_, fun j j' hj hj' e => ?_, fun x o p => ?_, fun j ds e => ?_, fun j n k' e hn => ?_, fun j b' k' ds e => ?_, fun j l e => ?_⟩, x, fun v hv => ?_⟩
  · have : j ≠ i := fun q => by rw [q, h1] at hj; cases hj
    rw [h2 j this] at hj
    exact hi.lt j hj
  · have q : j ≠ i := fun q => by rw [q, h1] at hj; cases hj
    have q' : j' ≠ i := fun q => by rw [q, h1] at hj'; cases hj'
    rw [h2 j q] at hj
    rw [h2 j' q'] at hj'
    exact hi.inj _ _ hj hj' e
  · rcases p with p | ⟨hbt, rfl, _⟩
    · exact hi.publt _ _ p
    · exact hlt hbt
  · have q : j ≠ i := fun q => by rw [q, h1] at e; cases e
    rw [h2 j q] at e
    obtain ⟨a1, cs, T, a2, a3, a4⟩ := hi.box j ds e
    refine ⟨fun o p => ?_, cs, T, a2, a3, fun m c d hc hd => ⟨(a4 m c d hc hd).1.ext x, (a4 m c d hc hd).2⟩⟩
    rcases p with p | ⟨hbt, p, _⟩
    · exact a1 o p
    · exact hap j q (by rw [e]; rfl) hbt p
  · have q : j ≠ i := fun q => by rw [q, h1] at e; cases e
    rw [h2 j q] at e
    obtain ⟨a1, a2⟩ := hi.front j n k' e hn
    refine ⟨a1, fun o ho p => ?_⟩
    rcases p with p | ⟨hbt, p, _⟩
    · exact a2 o ho p
    · exact hap j q (by rw [e]; simp [O.has, hn]) hbt p
  · have q : j ≠ i := fun q => by rw [q, h1] at e; cases e
    rw [h2 j q] at e
    obtain ⟨a0, a⟩ := hi.vec j b' k' ds e
    refine ⟨a0, fun hb' => ?_⟩
    obtain ⟨a1, cs, T, a2, a3, a4⟩ := a hb'
    refine ⟨fun o p => ?_, cs, T, a2, a3, fun m c d hc hd => ⟨(a4 m c d hc hd).1.ext x, (a4 m c d hc hd).2⟩⟩
    rcases p with p | ⟨hbt, p, _⟩
    · exact a1 o p
    · exact hap j q (by rw [e]; exact hb') hbt p
  · have q : j ≠ i := fun q => by rw [q, h1] at e; cases e
    rw [h2 j q] at e
    obtain ⟨a1, es', ck, a2, a3, a4⟩ := hi.smap j l e
    refine ⟨fun o p => ?_, es', ck, a2, a3, fun m e p a b => ⟨(a4 m e p a b).1, (a4 m e p a b).2.mono x.pub⟩⟩
    rcases p with p | ⟨hbt, p, _⟩
    · exact a1 o p
    · exact hap j q (by rw [e]; rfl) hbt p
  · obtain ⟨a, cap, rfl, _, hm, hnc, hvo⟩ := rv_vec hv
    obtain ⟨_, hlen, hf, ht⟩ := hvo _ _ _ hb
    refine .e ?_
    cases b with
    | false =>
      obtain ⟨h0, rfl, hsp⟩ := hf rfl
      have : es = [] := List.length_eq_zero_iff.1 h0
      subst this
      exact .nils fun _ => rfl
    | true =>
      obtain ⟨rfl, _⟩ := ht rfl
      obtain ⟨uu, hu1, hu2⟩ := vec_cells hi hb
      have hlen : es.length * k ≤ ds.length := by have := congrArg List.length hds; rw [List.length_take, List.length_map, hfl] at this; omega
      refine .sl (k := k) uu rfl hnc hm hk (fun j hj => ?_) (fun j d hd => ?_)
      · rw [Nat.zero_add]
        exact ⟨.inr ⟨rfl, rfl, hj⟩, hu1 j (by omega)⟩
      · have hj : j < es.length * k := by rw [← hfl]; exact (List.getElem?_eq_some_iff.1 hd).1
        have := (hu2 j (.e d) (take_get hds hd hj)).1
        exact (rv_e this).mono x.pub
theorem hpF_set {l : List O} {i : Nat} {o : O} (hi : i < l.length) : hpF (l.set i o) i = o ∧ ∀ j, j ≠ i → hpF (l.set i o) j = hpF l j := by
  refine ⟨by simp [hpF, List.getD, hi], fun j hj => ?_⟩
  simp [hpF, List.getD, List.getElem?_set_ne (Ne.symm hj)]
theorem hp_lt {l : List O} {i : Nat} (h : hpF l i ≠ .dead) : i < l.length := by
  rcases Nat.lt_or_ge i l.length with q | q
  · exact q
  · exact absurd (hpF_ge q) h
/-- A slot's slice, published, in the state. -/
theorem Weak.pub {h0 : Hp} {env : List (Nat × D)} {hp : List O} (t i n k : Nat) {b : Bool} {ds : List D} {es : List (List E)} (ht : look t env = some (.vec i n k)) (hb : hpF hp i = .vec b k ds) (hn : es.length = n) (hds : ds.take (n * k) = es.flatten.map .e) (hk : ∀ e ∈ es, e.length = k) :
    Weak h0 ⟨env, hp⟩ ⟨(t, .e (.sl es)) :: env, hp.set i .gone⟩ := by
  intro w G hi
  have hlt : i < hp.length := hp_lt (by rw [hb]; simp)
  obtain ⟨a1, a2⟩ := hpF_set (o := .gone) hlt
  obtain ⟨G', i1, x1, r1⟩ := vec_pub hi hb (by rw [hn]; exact hds) hk a1 a2
  refine ⟨G', i1, fun w0 G0 e => e.trans x1, fun t' d' hl => ?_⟩
  simp only [look] at hl
  split at hl
  · rename_i e
    subst e
    cases hl
    exact ⟨_, ht, fun v r => r1 v (by rw [hn]; exact r)⟩
  · exact ⟨d', hl, fun v r => r.ext x1⟩
/-- What is handed back, published. -/
theorem FinV.pub {l0 l : List O} {i n k : Nat} {b : Bool} {ds : List D} {es : List (List E)} (hb : hpF l i = .vec b k ds) (hn : es.length = n) (hds : ds.take (n * k) = es.flatten.map .e) (hk : ∀ e ∈ es, e.length = k) : FinV l0 l (.vec i n k) (l.set i .gone) (.e (.sl es)) := by
  intro w G v hi hr
  obtain ⟨a1, a2⟩ := hpF_set (o := .gone) (hp_lt (by rw [hb]; simp))
  obtain ⟨G', i1, x1, r1⟩ := vec_pub hi hb (by rw [hn]; exact hds) hk a1 a2
  exact ⟨G', r1 v (by rw [hn]; exact hr), i1, fun w0 G0 e => e.trans x1⟩
/-- The same, of a function that has been handed nothing that is still written. -/
theorem fin_vec {l : List O} {i n k : Nat} {b : Bool} {ds : List D} {es : List (List E)} (hb : hpF l i = .vec b k ds) (hn : es.length = n) (hds : ds.take (n * k) = es.flatten.map .e) (hk : ∀ e ∈ es, e.length = k) : FinW l (.vec i n k) (.e (.sl es)) := by
  intro w G v hi hr
  obtain ⟨G1, r1, i1, e1⟩ := FinV.pub (l0 := []) hb hn hds hk w G v hi hr
  obtain ⟨G2, r2, i2, e2⟩ := fin_pl (l := l.set i .gone) (d' := .e (.sl es)) (d := .e (.sl es)) rfl rfl w G1 v i1 r1
  exact ⟨G2, r2, i2, fun w0 G0 e => e2 _ _ (e1 _ _ e)⟩
theorem Ar.Ok.fin_vec {A : Ar} (h : A.Ok) {l : List O} {i n k : Nat} {b : Bool} {ds : List D} {es : List (List E)} (hb : hpF l i = .vec b k ds) (hn : es.length = n) (hds : ds.take (n * k) = es.flatten.map .e) (hk : ∀ e ∈ es, e.length = k) : A.fin l (.vec i n k) (.e (.sl es)) :=
  h.fin _ _ _ fun _ => Ab.fin_vec hb hn hds hk
/-! ### Lent to a call -/
mutual
/-- Nothing in it leads into memory. -/
def D.sc : D → Bool
  | .e (.v _) => true
  | .agg ds => scs ds
  | .tup ds => scs ds
  | _ => false
def scs : List D → Bool
  | [] => true
  | d :: r => d.sc && scs r
end
theorem scs_get : ∀ {ds : List D} {j : Nat} {d : D}, scs ds = true → ds[j]? = some d → d.sc = true
  | [], j, d, _, hd => by simp at hd
  | x :: r, 0, d, h, hd => by
    simp only [scs, Bool.and_eq_true] at h
    simp at hd; subst hd; exact h.1
  | x :: r, j + 1, d, h, hd => by
    simp only [scs, Bool.and_eq_true] at h
    exact scs_get h.2 (by simpa using hd)
theorem Rv.sc {w : World} {G : Gh} {h : Hp} {v : Value} {d : D} (r : Rv w G h v d) {w' : World} {G' : Gh} {h' : Hp} (hs : d.sc = true) : Rv w' G' h' v d := by
  induction r with
  | @e x d h =>
    cases d with
    | v y => cases h with | v h => exact .e (.v h)
    | _ => simp [D.sc] at hs
  | agg hl h1 _ ih => exact .agg hl h1 fun j c d hc hd => ih j c d hc hd (scs_get (by simpa [D.sc] using hs) hd)
  | tup hl _ ih => exact .tup hl fun j c d hc hd => ih j c d hc hd (scs_get (by simpa [D.sc] using hs) hd)
  | _ => simp [D.sc] at hs
/-- What an argument is for a call that only looks. -/
def Lent (h : Hp) (L : List Nat) (d a : D) : Prop :=
  (a = d ∧ d.free = true) ∨ (a = d.pl ∧ d.pl.free = true) ∨
  (∃ i n k b ds es, d = .vec i n k ∧ i ∈ L ∧ h i = .vec b k ds ∧ a = .e (.sl es) ∧ ds.take (n * k) = es.flatten.map .e ∧ es.length = n ∧ ∀ e ∈ es, e.length = k) ∨
  (∃ i n k ds es, d = .bs i 0 n k ∧ i ∈ L ∧ h i = .box ds ∧ a = .e (.sl es) ∧ ds.take (n * k) = es.flatten.map .e ∧ es.length = n ∧ ∀ e ∈ es, e.length = k)
def Lents (h : Hp) (L : List Nat) : List D → List D → Prop
  | [], [] => True
  | d :: r, a :: s => Lent h L d a ∧ Lents h L r s
  | _, _ => False
theorem Lents.len {h : Hp} {L : List Nat} : ∀ {ds az : List D}, Lents h L ds az → az.length = ds.length
  | [], [], _ => rfl
  | _ :: _, _ :: _, x => by simp [Lents.len x.2]
  | [], _ :: _, x => x.elim
  | _ :: _, [], x => x.elim
theorem Lents.get {h : Hp} {L : List Nat} : ∀ {ds az : List D} {j : Nat} {a : D}, Lents h L ds az → az[j]? = some a → ∃ d, ds[j]? = some d ∧ Lent h L d a
  | [], [], j, _, _, e => by simp at e
  | d :: _, _ :: _, 0, _, x, e => by simp at e; subst e; exact ⟨d, by simp, x.1⟩
  | _ :: _, _ :: _, j + 1, _, x, e => by obtain ⟨d, h1, h2⟩ := Lents.get x.2 (by simpa using e); exact ⟨d, by simpa using h1, h2⟩
  | [], _ :: _, _, _, x, _ => x.elim
  | _ :: _, [], _, _, x, _ => x.elim
/-- All of memory, looked at. -/
def allPub (w : World) (G : Gh) : Gh := ⟨fun b _ => b < w.heap.size, G.blk⟩
theorem allPub_inv {w : World} {G : Gh} : Inv w (allPub w G) (hpF []) := by
  rw [hpF_nil]
  exact ⟨fun i h => by simp [O.has] at h, fun i j h => by simp [O.has] at h, fun _ _ p => p, fun i ds e => by simp at e, fun i n k e => by simp at e, fun i b k ds e => by simp at e, fun i l e => by simp at e⟩
theorem Rv.freeMono {w : World} {G : Gh} {h : Hp} {v : Value} {d : D} (r : Rv w G h v d) {G' : Gh} {h' : Hp} (hf : d.free = true) (hp : ∀ b o, G.pub b o → G'.pub b o) : Rv w G' h' v d := by
  induction r with
  | e h => exact .e (h.mono fun b o p => ⟨hp b o p, rfl⟩)
  | agg hl h1 _ ih => exact .agg hl h1 fun j c d hc hd => ih j c d hc hd (frees_get (by simpa [D.free] using hf) hd)
  | own _ _ _ => simp [D.free] at hf
  | zs ha => exact .zs ha
  | bs _ _ _ _ => simp [D.free] at hf
  | rp u hu hr => exact .rp u (fun j hj => ⟨hp _ _ (hu j hj).1, (hu j hj).2⟩) fun j d hd => (hr j d hd).mono fun b o p => ⟨hp b o p, rfl⟩
  | ref _ => simp [D.free] at hf
  | refs _ => simp [D.free] at hf
  | tup hl _ ih => exact .tup hl fun j c d hc hd => ih j c d hc hd (frees_get (by simpa [D.free] using hf) hd)
  | when _ hu ih => exact .when (fun e => ih e (by simpa [D.free] using hf)) hu
  | fn hl _ hl' _ ih ih' =>
    simp only [D.free, Bool.and_eq_true] at hf
    exact .fn hl (fun j c d hc hd => ih j c d hc hd (frees_get hf.1 hd)) hl' fun j c d hc hd => ih' j c d hc hd (frees_get hf.2 hd)
  | vec _ _ _ _ => simp [D.free] at hf
  | vref _ _ => simp [D.free] at hf
  | mp _ => simp [D.free] at hf
  | any => exact .any
theorem lent_rv {w : World} {G : Gh} {h h' : Hp} {L : List Nat} (hi : Inv w G h') (he : ∀ i ∈ L, h' i = h i) {d a : D} (x : Lent h L d a) {v : Value} (r : Rv w G h' v d) : Rv w (allPub w G) (hpF []) v a := by
  have cell_lt : ∀ {b o : Nat} {u : Value}, w.cell? ⟨b, o, none⟩ = some u → b < w.heap.size := fun {b o u} e => by
    simp only [World.cell?] at e
    split at e
    · rename_i hb
      exact (Array.getElem?_eq_some_iff.1 hb).1
    · cases e
  rcases x with ⟨rfl, hf⟩ | ⟨rfl, hf⟩ | ⟨i, n, k, b, ds, es, rfl, hL, hb, rfl, h1, h2, h3⟩ | ⟨i, n, k, ds, es, rfl, hL, hb, rfl, h1, h2, h3⟩
  · exact r.freeMono hf hi.publt
  · exact r.pl.freeMono hf hi.publt
  · rw [← he i hL] at hb
    have hfl : es.flatten.length = n * k := by rw [flatten_len h3, h2]
    obtain ⟨a, cap, rfl, _, hm, hnc, hvo⟩ := rv_vec r
    obtain ⟨_, hlen, hff, ht⟩ := hvo _ _ _ hb
    refine .e ?_
    cases b with
    | false =>
      obtain ⟨rfl, rfl, _⟩ := hff rfl
      have : es = [] := List.length_eq_zero_iff.1 h2
      subst this
      exact .nils fun _ => rfl
    | true =>
      obtain ⟨rfl, _⟩ := ht rfl
      obtain ⟨uu, hu1, hu2⟩ := vec_cells hi hb
      refine .sl uu h2 hnc hm h3 (fun j hj => ?_) (fun j d hd => ?_)
      · rw [Nat.zero_add]
        have := hu1 j (by omega)
        exact ⟨cell_lt this, this⟩
      · have hj : j < n * k := by rw [← hfl]; exact (List.getElem?_eq_some_iff.1 hd).1
        exact (rv_e (hu2 j (.e d) (take_get h1 hd hj)).1).mono fun b o p => ⟨hi.publt b o p, rfl⟩
  · rw [← he i hL] at hb
    have hfl : es.flatten.length = n * k := by rw [flatten_len h3, h2]
    refine .e ?_
    cases r with
    | bs hb' hcap hl hm =>
      rename_i cap ds' b o
      rw [hb] at hb'
      cases hb'
      rcases hl with rfl | ⟨rfl, rfl, hsz⟩
      · have : es = [] := List.length_eq_zero_iff.1 h2
        subst this
        exact .sl (k := k) (fun _ => undef) rfl hcap hm h3 (fun j hj => by simp at hj) (fun j d hd => by simp at hd)
      · obtain ⟨uu, hu1, hu2⟩ := box_cells hi hb
        have hle : n * k ≤ cap * k := Nat.mul_le_mul_right k hcap
        refine .sl uu h2 hcap hm h3 (fun j hj => ?_) (fun j d hd => ?_)
        · rw [Nat.zero_add]
          have := hu1 j (by omega)
          exact ⟨cell_lt this, this⟩
        · have hj : j < n * k := by rw [← hfl]; exact (List.getElem?_eq_some_iff.1 hd).1
          exact (rv_e (hu2 j (.e d) (take_get h1 hd hj)).1).mono fun b o p => ⟨hi.publt b o p, rfl⟩
/-- Behind a call that only looked: memory is as it was. -/
theorem frame_look {w w' : World} {G G1 : Gh} {h h1 : Hp} (hi : Inv w G h) (he : Ext w (allPub w G) (hpF []) w' G1 h1) : Inv w' G h ∧ Ext w G h w' G h := by
  rw [hpF_nil] at he
  have row : ∀ b, b < w.heap.size → w'.heap[b]? = w.heap[b]? := fun b hb => he.others b hb fun j hj => by simp [O.has] at hj
  have ext : Ext w G h w' G h := {
    os := he.os
    tape := he.tape
    output := he.output
    size := he.size
    pub := fun b o p => ⟨p, by simp only [World.cell?]; rw [row b (hi.publt b o p)]⟩
    box := fun i ds e => ⟨⟨ds, e, rfl⟩, rfl⟩
    tok := fun i n k e => ⟨n, e, Nat.le_refl _, fun _ hn => ⟨rfl, by simp only [World.shape?]; rw [row _ (hi.lt i (by rw [e]; simp [O.has, hn]))]⟩⟩
    others := fun b hb _ => row b hb
    new := fun i hi => .inl ⟨i, hi, rfl⟩
    vec := fun i b k ds e => .inr ⟨ds, e, Nat.le_refl _, fun hb => ⟨rfl, by simp only [World.shape?]; rw [row _ (hi.lt i (by rw [e]; exact hb))]⟩⟩
    gone := fun _ e => e
    smap := fun _ l e => ⟨⟨l, e⟩, rfl⟩
    pubnew := fun b o p => .inl p }
  refine ⟨⟨fun i hh => Nat.lt_of_lt_of_le (hi.lt i hh) he.size, hi.inj, fun b o p => Nat.lt_of_lt_of_le (hi.publt b o p) he.size, fun i ds e => ?_, fun i n k e hn => ?_, fun i b k ds e => ?_, fun i l e => ?_⟩, ext⟩
  · obtain ⟨a1, cs, T, a2, a3, a4⟩ := hi.box i ds e
    exact ⟨a1, cs, T, by rw [← a2]; exact row _ (hi.lt i (by rw [e]; rfl)), a3, fun j c d hc hd => ⟨(a4 j c d hc hd).1.ext ext, (a4 j c d hc hd).2⟩⟩
  · obtain ⟨⟨cs, T, a1⟩, a2⟩ := hi.front i n k e hn
    exact ⟨⟨cs, T, by rw [← a1]; exact row _ (hi.lt i (by rw [e]; simp [O.has, hn]))⟩, a2⟩
  · obtain ⟨a0, a⟩ := hi.vec i b k ds e
    refine ⟨a0, fun hb => ?_⟩
    obtain ⟨a1, cs, T, a2, a3, a4⟩ := a hb
    exact ⟨a1, cs, T, by rw [← a2]; exact row _ (hi.lt i (by rw [e]; exact hb)), a3, fun j c d hc hd => ⟨(a4 j c d hc hd).1.ext ext, (a4 j c d hc hd).2⟩⟩
  · obtain ⟨a1, es, ck, a2, a3, a4⟩ := hi.smap i l e
    exact ⟨a1, es, ck, by rw [← a2]; exact row _ (hi.lt i (by rw [e]; rfl)), a3, fun j e p a b => ⟨(a4 j e p a b).1, (a4 j e p a b).2.mono ext.pub⟩⟩
theorem Plain.callL {P : Program} {fn : FuncId} {ds args : List D} {d : D} {h0 : Hp} {L : List Nat} (h : Plain P fn args d) (ha : Lents h0 L ds args) (hd : d.sc = true) (f : Nat) : CallE P fn ds (L.map fun i => (i, h0 i)) f { d := some d, tc := L } := by
  intro w G hh h' vs hi hpre _ he hs hr
  have e' : h' = hh := by
    funext i
    rw [he i]
    simp only [List.length_nil, Nat.add_zero, List.find?_nil]
    rw [if_neg (by omega)]
  subst e'
  refine (h w (allPub w G) vs allPub_inv (by rw [hs, ha.len]) fun j v x hv hx => ?_).mono fun e w' ⟨v, d', l', G1, q1, q2, q3, q4, q5⟩ => ?_
  · obtain ⟨d0, h1, h2⟩ := ha.get hx
    exact lent_rv hi (fun i hL => hpre i _ (List.mem_map.2 ⟨i, hL, rfl⟩)) h2 (hr j v d0 hv h1)
  · obtain ⟨G2, r1, r2, r3⟩ := q2 w' G1 v q4 q3
    obtain ⟨i1, x1⟩ := frame_look hi (r3 _ _ q5)
    exact ⟨v, d, G, q1, rfl, r1.sc hd, i1, x1⟩
/-- A call that only looks at what is still written: its result leads nowhere. -/
theorem callK_look {A : Ar} (hA : A.Ok) {P Q : Program} (e : P = Q) {hp : Hp} {f : Nat} {gd g : Bool} {fn : FuncId} {ds args : List D} {d : D} {o : Prop} {K : Prop → Eff → Prop} (L : List Nat)
    (ha : Lents hp L ds args) (hd : d.sc = true) (hk : K o { d := some (if gd then .when g d else d), tc := L }) (h : g = true → o → Plain Q fn args d) : A.call P hp f gd g fn ds o K :=
  hA.call _ _ _ _ _ _ _ _ _ ⟨ds, L.map fun i => (i, hp i), { d := some d, tc := L }, Wks.refl _, (fun hg ho => e ▸ (h hg ho).callL ha hd f), (fun i o hm => by
    obtain ⟨i', _, e⟩ := List.mem_map.1 hm
    cases e; rfl), fun _ _ => ⟨rfl, rfl⟩, fun _ h => (List.not_mem_nil h).elim, by simp [Function.comp_def], d, rfl, hk⟩
end Go.Proofs.Ytfplalbognalkaa.Ab
/- Calls that leave what they are handed as it was. -/
namespace Go.Proofs.Ytfplalbognalkaa.Ab
open Go
theorem Proc.callRO {P : Program} {fn : FuncId} {args : RF → List D} {l0 : RF → List O} {d : RF → D} (h : Proc P fn args l0 d l0) {L : List Nat} {f : Nat} (hL : L.length = (l0 id).length) (hn : ndB L = true) (hf : ∀ i ∈ L, i < f) :
    CallE P fn (args (num L f)) (L.zip (l0 (num L f))) f { d := some (d (num L f)), tc := L } := by
  intro w G hh h' vs hi hpre hal hh' hs hr
  have e' : h' = hh := by
    funext i
    rw [hh' i]
    simp only [List.length_nil, Nat.add_zero, List.find?_nil]
    rw [if_neg (by omega)]
  subst e'
  have ll : (l0 (num L f)).length = L.length := by rw [h.side.r0, List.length_map, hL]
  have hd : (l0 (num L f)).drop L.length = [] := List.drop_eq_nil_of_le (by omega)
  have ht : (l0 (num L f)).take L.length = l0 (num L f) := List.take_of_length_le (by omega)
  refine (h.callE hL hn hf) w G h' h' vs hi hpre (fun j hj => ?_) (fun i => ?_) hs hr
  · simp only [hd, List.length_nil] at hj
    omega
  · simp only [hd, ht, List.length_nil, Nat.add_zero]
    rw [if_neg (by omega)]
    cases hf2 : (L.zip (l0 (num L f))).find? (·.1 == i) with
    | none => rfl
    | some x =>
      have h1 := List.mem_of_find?_eq_some hf2
      have h2 := List.find?_some hf2
      simp only [beq_iff_eq] at h2
      rw [← h2]
      exact hpre x.1 x.2 h1
theorem callK_ro {A : Ar} (hA : A.Ok) {P Q : Program} (e : P = Q) {hp : Hp} {f : Nat} {gd g : Bool} {fn : FuncId} {ds : List D} {o : Prop} {K : Prop → Eff → Prop} {args : RF → List D} {l0 : RF → List O} {d : RF → D} (L : List Nat)
    (hn : (ndB L && L.all (· < f)) = true) (hpre : hpAll hp L (l0 (num L f))) (hw : Wks ds (args (num L f)))
    (hk : K o { d := some (if gd then .when g (d (num L f)) else d (num L f)), tc := L })
    (h : g = true → o → Proc Q fn args l0 d l0) (hs : Side args l0 d l0) : A.call P hp f gd g fn ds o K := by
  have hL : L.length = (l0 id).length := by rw [hpAll_len hpre, hs.r0, List.length_map]
  simp only [Bool.and_eq_true, List.all_eq_true, decide_eq_true_eq] at hn
  refine hA.call _ _ _ _ _ _ _ _ _ ⟨args (num L f), L.zip (l0 (num L f)), _, hw, fun hg ho => e ▸ (h hg ho).callRO hL hn.1 hn.2, hpAll_mem hpre, fun _ _ => ⟨rfl, rfl⟩, fun x hx => (List.not_mem_nil hx).elim, ?_, d (num L f), rfl, by simpa using hk⟩
  rw [List.map_fst_zip]
  rw [← hpAll_len hpre]; exact Nat.le_refl _
def fOK (Pr : Program) (G : FuncId) : Prop := ∃ func, Pr.funcs[G]? = some func ∧ ¬func.name = "runtime.NumGoroutine" ∧ func.body.isNone = false
end Go.Proofs.Ytfplalbognalkaa.Ab
/- What plans share. -/
namespace Go.Proofs.Ytfplalbognalkaa.Ab
open Go
theorem gg1 : ∀ b : Bool, (match (match b with | true => false | false => true) with | true => decide (b = false) = true | false => True) := fun b => by cases b <;> simp
theorem gg2 : ∀ b : Bool, (match b with | true => decide (b = true) = true | false => True) := fun b => by cases b <;> simp
theorem gg3 : ∀ b : Bool, (match decide (b = true) with | true => True | false => True) := fun b => by cases b <;> simp
theorem gg4 : ∀ b : Bool, (match decide (b = false) with | true => True | false => True) := fun b => by cases b <;> simp
theorem gg5 : ∀ b : Bool, (match b with | true => True | false => True) := fun b => by cases b <;> simp
def colsOf (ts : List Tb) (t : Int) : Int := (ts.getD t.toNat ([], 0, [])).2.1
theorem ors_at {l : List (List (Int × Int))} {es : List (List E)} (he : es = l.map orr) {n : Int} (h : 0 ≤ n ∧ n < es.length) : ∃ p, es.getD n.toNat [] = orr p ∧ l[n.toNat]? = some p := row_at he h
theorem gg6 : ∀ a b : Bool, (match (match decide (a = true) with | false => false | true => match b with | true => false | false => true) with | true => (match decide (a = true) with | false => false | true => decide (b = false)) = true | false => True) := fun a b => by cases a <;> cases b <;> simp
theorem all_drop {α : Type} {p : α → Bool} {l : List α} (h : ∀ (i : Nat) (a : α), l[i]? = some a → p a = true) : l.all p = true := by
  rw [List.all_eq_true]
  intro a ha
  obtain ⟨i, hi⟩ := List.getElem?_of_mem ha
  exact h i a hi
theorem fl0 {α : Type} {ks : List α} {f : α → List E} {x : List (List E)} (h : x = ks.map f) : decide ((x.length : Int) = 0) = decide (ks = []) := by
  subst h; cases ks with
  | nil => rfl
  | cons a r => simp; omega
theorem ibox_side {args : RF → List D} {i : Int} {d : D} (ha : ∀ t, args t = rens t (args id)) (hl : lts 1 (args id) = true) (hd : ∀ t, d = d.ren t) : Side args (fun _ => [.box [.int i]]) (fun _ => d) (fun _ => [.box [.int i]]) :=
  ⟨ha, hl, fun t => rfl, by intro o ho; simp at ho; subst ho; rfl, hd, fun t => rfl, by simp⟩
theorem ibox_fin {A : Ar} (hA : A.Ok) {i : Int} {l' : List O} {d' d : D} (h0 : hpF l' 0 = .box [.int i]) (h1 : d = d') (hd : ∀ t, d = d.ren t) (hl : ∀ m, d.lt m = true) : A.finv [.box [.int i]] l' d' [.box [.int i]] d :=
  hA.finv _ _ _ _ _ (FinV.ren [0] (fun _ => [.box [.int i]]) (fun _ => d) rfl (.inl h1) ⟨h0, trivial⟩ hd (hl _) (fun t => rfl) (by intro o ho; simp at ho; subst ho; rfl))
def fstG {α : Type} (q : α → Bool) : List α → Int → Int
  | [], _ => -1
  | k :: r, i => if q k then i else fstG q r (i + 1)
theorem fstG_any {α : Type} (q : α → Bool) : ∀ (l : List α) (i : Int), 0 ≤ i → decide (0 ≤ fstG q l i) = l.any q
  | [], i, _ => rfl
  | k :: r, i, h => by
    simp only [fstG, List.any_cons]
    by_cases hq : q k = true
    · simp [hq, h]
    · simp only [hq, Bool.false_eq_true, if_false, Bool.false_or]
      exact fstG_any q r (i + 1) (by omega)
end Go.Proofs.Ytfplalbognalkaa.Ab
/- Tables: valid, by the specification. -/
namespace Go.Proofs.Ytfplalbognalkaa.Ab
open Go
def fidxN : List Tb → List UInt8 → Int → Int
  | [], _, _ => -1
  | t :: r, n, k => if t.1 = n then k else fidxN r n (k + 1)
def fidx (ts : List Tb) (n : List UInt8) : Int := fidxN ts n 0
theorem fidx_at : ∀ (l : List Tb) (m : Nat) (t : Tb) (k : Int), l[m]? = some t → k ≤ fidxN l t.1 k ∧ (fidxN l t.1 k = k + m ↔ ∀ j t', j < m → l[j]? = some t' → t'.1 ≠ t.1)
  | [], m, t, k, h => by simp at h
  | a :: l, 0, t, k, h => by
    simp at h; subst h
    simp [fidxN]
  | a :: l, m + 1, t, k, h => by
    obtain ⟨h1, h2⟩ := fidx_at l m t (k + 1) (by simpa using h)
    by_cases e : a.1 = t.1
    · have e2 : fidxN (a :: l) t.1 k = k := if_pos e
      rw [e2]
      refine ⟨Int.le_refl _, ⟨fun q => by omega, fun q => absurd e (q 0 a (by omega) rfl)⟩⟩
    · have e2 : fidxN (a :: l) t.1 k = fidxN l t.1 (k + 1) := if_neg e
      rw [e2]
      refine ⟨by omega, ?_⟩
      rw [show k + ((m + 1 : Nat) : Int) = k + 1 + m by omega, h2]
      constructor
      · intro q j t' hj ht
        cases j with
        | zero => simp at ht; subst ht; exact e
        | succ j => exact q j t' (by omega) (by simpa using ht)
      · intro q j t' hj ht
        exact q (j + 1) t' (by omega) (by simpa using ht)
def good (ts : List Tb) (i : Nat) (t : Tb) : Bool := nameB t.1 && (decide (1 ≤ t.2.1 ∧ t.2.1 ≤ 16) && (decide (fidx ts t.1 = i) && t.2.2.all fun r => decide ((r.length : Int) = t.2.1)))
def rlen (t : Tb) : Int := t.2.2.length
theorem rlen_nonneg (t : Tb) : 0 ≤ rlen t := by unfold rlen; omega
def dbOk (ts : List Tb) : Bool := decide (ts.length ≤ 50) && (((List.range ts.length).all fun i => good ts i (ts.getD i ([], 0, []))) && decide (sumC rlen ts ≤ 1000))
theorem dbF (ts : List Tb) : (50 < ts.length → dbOk ts = false) ∧ (∀ i t, ts[i]? = some t → good ts i t = false → dbOk ts = false) ∧
    (ts.length ≤ 50 → (∀ i t, ts[i]? = some t → good ts i t = true) → dbOk ts = decide (sumC rlen ts ≤ 1000)) := by
  refine ⟨fun h => by simp [dbOk, show ¬ ts.length ≤ 50 by omega], fun i t h e => ?_, fun h q => ?_⟩
  · have hi := (List.getElem?_eq_some_iff.1 h).1
    have : ((List.range ts.length).all fun i => good ts i (ts.getD i ([], 0, []))) = false := by
      rw [List.all_eq_false]
      exact ⟨i, by simp [hi], by simp [List.getD, h, e]⟩
    rw [dbOk, this]; simp
  · have : ((List.range ts.length).all fun i => good ts i (ts.getD i ([], 0, []))) = true := by
      rw [List.all_eq_true]
      intro i hi
      simp at hi
      exact q i _ (by simp [List.getD, hi])
    rw [dbOk, this, decide_eq_true h]; simp
theorem sz_rows (ts : List Tb) : sumC rlen ts ≤ cTS ts := by
  have : ∀ l : List Tb, sumC rlen l ≤ sumC cT l := fun l => by
    induction l with
    | nil => exact Int.le_refl _
    | cons t l ih =>
      simp only [sumC]
      have := sumC_nonneg cV_nonneg t.2.2
      have : rlen t ≤ cT t := by unfold rlen cT cSS; omega
      omega
  have := this ts
  unfold cTS; omega
theorem sz_row {ts : List Tb} {t : Tb} (h : t ∈ ts) : cT t ≤ cTS ts := by have := sumC_mem cT_nonneg h; unfold cTS; omega
set_option maxRecDepth 100000 in
theorem ok128 (ts : List Tb) (x : List (List E)) (hx : x = ts.map tbr) (n : List UInt8) : Plain Try.prog 128 [.agg [.e (.sl x)], .str n] (.int (fidx ts n)) := okOf mixed p128 fun A P hA hP => (by
  have hl : x.length = ts.length := by rw [hx]; simp
  obtain ⟨r, hr⟩ : ∃ r, r = fidx ts n := ⟨_, rfl⟩
  rw [← hr]
  cbv
  repeat' first | with_reducible rfl | with_reducible refine And.intro ?_ ?_ | ((with_reducible intro hcc); first | (cases hcc; done) | skip) | ((with_reducible show goC _ _ _ _ _ _ _ _); cbv) | ((with_reducible show goOps _ _ _ _ _); cbv) | ((with_reducible show goD _ _ _ _ _ _); cbv) | ((with_reducible show okWr _ _ = _); rfl) | ((with_reducible refine hA.fin_pl _ _ _ ?_); cbv) | ((with_reducible refine hA.len _ _ _ _ _ fun z hz hb => ?_); cbv) | ((with_reducible refine hA.off _ _ _ _ fun b hb => ?_); cbv) | ((with_reducible refine hA.plus _ _ _ fun b hb => ?_); cbv) | ((with_reducible refine hA.sapp _ _ _ ⟨?_, fun sl hsl => ?_⟩); rotate_left; cbv) | (simp only [hA.natLit, hA.natOf, hA.natCast]; cbv)
  all_goals try simp only [hA.add, hA.sub, hA.mul, hA.neg, hA.div, hA.mod, hA.mn, hA.mx, hA.eq, hA.lt, hA.le, hA.nat, hA.R, hA.lep, hA.ltp, hA.seq, inR, n_cast, Int.ofNat_eq_natCast, Option.getD_some, Option.getD_none] at *
  refine hA.loopI (fun m s => ∃ i : Int, 0 ≤ i ∧ m + i = x.length ∧ r = fidxN (ts.drop i.toNat) n i ∧ s = ⟨[(5, .int i), (1, .str n), (2, .ref 0 0), (4, .int 0)], [.box [.e (.sl x)]]⟩) x.length _
    (Weak.keep (env' := [(5, .int 0), (1, .str n), (2, .ref 0 0), (4, .int 0)]) ⟨rfl, rfl, rfl, rfl, trivial⟩) ⟨0, by omega, by omega, by simpa [fidx] using hr, rfl⟩ ?_
  rintro m s K ⟨i, h0, h1, h2, rfl⟩ hK
  by_cases hin : (0 : Int) ≤ i ∧ i < x.length
  · obtain ⟨⟨n1, c1, rs1⟩, e1, q1⟩ := row_at hx hin
    obtain ⟨x1, hx1⟩ : ∃ y, y = rs1.map rsr := ⟨_, rfl⟩
    have e1 : x.getD i.toNat [] = [E.str n1, E.int c1, E.sl x1] := e1.trans (by rw [hx1])
    have h3 : r = if n1 = n then i else fidxN (ts.drop (i.toNat + 1)) n (i + 1) := by
      obtain ⟨a, b⟩ := List.getElem?_eq_some_iff.1 q1
      rw [h2, List.drop_eq_getElem_cons a, b]; rfl
    have e8 : (i + 1).toNat = i.toNat + 1 := by omega
    clear h2 hr
    cbv
    repeat' first | with_reducible rfl | with_reducible refine And.intro ?_ ?_ | ((with_reducible intro hcc); first | (cases hcc; done) | skip) | ((with_reducible show goC _ _ _ _ _ _ _ _); cbv) | ((with_reducible show goOps _ _ _ _ _); cbv) | ((with_reducible show goD _ _ _ _ _ _); cbv) | ((with_reducible show okWr _ _ = _); rfl) | ((with_reducible refine hA.row x _ _ ⟨hin, fun row hrow => ?_⟩); rw [e1] at hrow; subst hrow; cbv) | ((with_reducible refine hA.fin_pl _ _ _ ?_); cbv) | ((with_reducible refine hA.len _ _ _ _ _ fun z hz hb => ?_); cbv) | ((with_reducible refine hA.off _ _ _ _ fun b hb => ?_); cbv) | ((with_reducible refine hA.plus _ _ _ fun b hb => ?_); cbv) | ((with_reducible refine hA.sapp _ _ _ ⟨?_, fun sl hsl => ?_⟩); rotate_left; cbv) | (simp only [hA.natLit, hA.natOf, hA.natCast]; cbv)
    all_goals try simp only [hA.add, hA.sub, hA.mul, hA.neg, hA.div, hA.mod, hA.mn, hA.mx, hA.eq, hA.lt, hA.le, hA.nat, hA.R, hA.lep, hA.ltp, hA.seq, inR, n_cast, Int.ofNat_eq_natCast, Option.getD_some, Option.getD_none] at *
    all_goals first
      | omega
      | (rw [h3, if_pos (by simpa using (by assumption : decide (n1 = n) = true))]; done)
      | (refine hK _ (m - 1) _ (by omega) (Weak.keep (env' := [(5, .int (i + 1)), (1, .str n), (2, .ref 0 0), (4, .int 0)]) ⟨rfl, rfl, rfl, rfl, trivial⟩) ⟨i + 1, by omega, by omega, ?_, rfl⟩
         rw [h3, if_neg (by simpa using (by assumption : decide (n1 = n) = false)), e8])
      | (clear hK h3; simp at *; omega)
      | (trace_state; fail)
  · have hd : ts.drop i.toNat = [] := by rw [List.drop_eq_nil_iff]; omega
    rw [hd] at h2
    have h3 : r = -1 := h2
    clear hK h2 hr
    cbv
    repeat' first | with_reducible rfl | with_reducible refine And.intro ?_ ?_ | ((with_reducible intro hcc); first | (cases hcc; done) | skip) | ((with_reducible show goC _ _ _ _ _ _ _ _); cbv) | ((with_reducible show goOps _ _ _ _ _); cbv) | ((with_reducible show goD _ _ _ _ _ _); cbv) | ((with_reducible show okWr _ _ = _); rfl) | (exfalso; simp only [hA.lt, hA.sub, decide_eq_true_eq, decide_eq_false_iff_not, n_cast] at *; omega) | ((with_reducible refine hA.fin_pl _ _ _ ?_); cbv) | ((with_reducible refine hA.len _ _ _ _ _ fun z hz hb => ?_); cbv) | ((with_reducible refine hA.off _ _ _ _ fun b hb => ?_); cbv) | ((with_reducible refine hA.plus _ _ _ fun b hb => ?_); cbv) | ((with_reducible refine hA.sapp _ _ _ ⟨?_, fun sl hsl => ?_⟩); rotate_left; cbv) | (simp only [hA.natLit, hA.natOf, hA.natCast]; cbv)
    all_goals try simp only [hA.add, hA.sub, hA.mul, hA.neg, hA.div, hA.mod, hA.mn, hA.mx, hA.eq, hA.lt, hA.le, hA.nat, hA.R, hA.lep, hA.ltp, hA.seq, inR, n_cast, Int.ofNat_eq_natCast, Option.getD_some, Option.getD_none] at *
    all_goals first
      | (rw [h3]; done)
      | omega
      | (trace_state; fail))
theorem good_iff {ts : List Tb} {i : Nat} {n : List UInt8} {c : Int} {rs : List (List (Bool × Int))} : good ts i (n, c, rs) = true ↔ nameB n = true ∧ (1 ≤ c ∧ c ≤ 16) ∧ fidx ts n = i ∧ ∀ r ∈ rs, (r.length : Int) = c := by
  simp [good]
set_option maxRecDepth 100000 in
set_option maxHeartbeats 2000000 in
theorem ok73 (ts : List Tb) (x : List (List E)) (hx : x = ts.map tbr) (hsz : cTS ts ≤ 1048576) : Plain Try.prog 73 [.agg [.e (.sl x)]] (.bool (dbOk ts)) := okOf mixed p73 fun A P hA hP => (by
  have hl : x.length = ts.length := by rw [hx]; simp
  obtain ⟨d1, d2, d3⟩ := dbF ts
  obtain ⟨r, hr⟩ : ∃ r, r = dbOk ts := ⟨_, rfl⟩
  rw [← hr] at d1 d2 d3 ⊢
  clear hr
  cbv
  repeat' first | with_reducible rfl | with_reducible refine And.intro ?_ ?_ | ((with_reducible intro hcc); first | (cases hcc; done) | skip) | ((with_reducible show goC _ _ _ _ _ _ _ _); cbv) | ((with_reducible show goOps _ _ _ _ _); cbv) | ((with_reducible show goD _ _ _ _ _ _); cbv) | ((with_reducible show okWr _ _ = _); rfl) | ((with_reducible refine hA.fin_pl _ _ _ ?_); cbv) | ((with_reducible refine hA.len _ _ _ _ _ fun z hz hb => ?_); cbv) | ((with_reducible refine hA.off _ _ _ _ fun b hb => ?_); cbv) | ((with_reducible refine hA.plus _ _ _ fun b hb => ?_); cbv) | ((with_reducible refine hA.st _ _ _ _ _ ⟨?_, fun ds hds => ?_⟩); rotate_left; cbv) | ((with_reducible refine hA.sapp _ _ _ ⟨?_, fun sl hsl => ?_⟩); rotate_left; cbv) | ((with_reducible refine hA.gb0 true _ ?_); cbv) | ((with_reducible refine hA.gb0 false _ ?_); cbv) | ((with_reducible refine hA.gb _ _ fun vb hvb => ?_); cbv) | (simp only [hA.natLit, hA.natOf, hA.natCast]; cbv)
  all_goals try simp only [hA.add, hA.sub, hA.mul, hA.neg, hA.div, hA.mod, hA.mn, hA.mx, hA.eq, hA.lt, hA.le, hA.nat, hA.R, hA.lep, hA.ltp, hA.seq, inR, n_cast, Int.ofNat_eq_natCast, Option.getD_some, Option.getD_none] at *
  all_goals try (first | (rw [d1 (by simp at *; omega)]; done))
  have h50 : ts.length ≤ 50 := by clear d1 d2 d3; simp at *; omega
  have hrn := sz_rows ts
  refine hA.loopI (fun m s => ∃ i rows : Int, 0 ≤ i ∧ m + i = x.length ∧ 0 ≤ rows ∧ rows + sumC rlen (ts.drop i.toNat) = sumC rlen ts ∧ (∀ (j : Nat) t, (j : Int) < i → ts[j]? = some t → good ts j t = true) ∧
      s = ⟨[(4, .int i), (3, .int rows), (2, .bool false), (1, .ref 0 0)], [.box [.e (.sl x)]]⟩) x.length _
    (Weak.keep (env' := [(4, .int 0), (3, .int 0), (2, .bool false), (1, .ref 0 0)]) ⟨rfl, rfl, rfl, rfl, trivial⟩) ⟨0, 0, by omega, by omega, by omega, by simp, fun j t hj => by omega, rfl⟩ ?_
  rintro m s K ⟨i, rows, h0, h1, h2, h3, h4, rfl⟩ hK
  by_cases hin : (0 : Int) ≤ i ∧ i < x.length
  · obtain ⟨⟨n1, c1, rs1⟩, e1, q1⟩ := row_at hx hin
    obtain ⟨x1, hx1⟩ : ∃ y, y = rs1.map rsr := ⟨_, rfl⟩
    have e1 : x.getD i.toNat [] = [E.str n1, E.int c1, E.sl x1] := e1.trans (by rw [hx1])
    have hl1 : x1.length = rs1.length := by rw [hx1]; simp
    rw [sumC_drop q1] at h3
    have hS := sumC_nonneg rlen_nonneg (ts.drop (i.toNat + 1))
    have hrl : rlen (n1, c1, rs1) = x1.length := by rw [hl1]; rfl
    have hd := d2 i.toNat _ q1
    have gi := good_iff (ts := ts) (i := i.toNat) (n := n1) (c := c1) (rs := rs1)
    obtain ⟨g, hg⟩ : ∃ g, g = good ts i.toNat (n1, c1, rs1) := ⟨_, rfl⟩
    rw [← hg] at hd gi
    obtain ⟨nb, hnb⟩ : ∃ b, b = nameB n1 := ⟨_, rfl⟩
    obtain ⟨fi, hfi⟩ : ∃ f, f = fidx ts n1 := ⟨_, rfl⟩
    rw [← hnb, ← hfi] at gi
    have h66 := ok115 n1
    have h67 := ok128 ts x hx n1
    rw [← hnb] at h66
    rw [← hfi] at h67
    have e8 : (i + 1).toNat = i.toNat + 1 := by omega
    have hK2 : (g = true) → ∀ w : Int, w = rows + x1.length → ∀ s1, Weak (hpF []) s1 ⟨[(4, .int (i + 1)), (3, .int w), (2, .bool false), (1, .ref 0 0)], [.box [.e (.sl x)]]⟩ → K s1 := fun e w hww s1 hw => by
      refine hK s1 (m - 1) _ (by omega) hw ⟨i + 1, _, by omega, by omega, by omega, by rw [e8]; omega, fun j t hj ht => ?_, rfl⟩
      by_cases hji : (j : Int) < i
      · exact h4 j t hji ht
      · have : j = i.toNat := by omega
        subst this
        rw [q1] at ht
        cases ht
        rw [← hg]; exact e
    clear hK h4 hnb hfi hg d1 d2 d3
    cbv
    repeat' first | with_reducible rfl | with_reducible refine And.intro ?_ ?_ | ((with_reducible intro hcc); first | (cases hcc; done) | skip) | ((with_reducible show goC _ _ _ _ _ _ _ _); cbv) | ((with_reducible show goOps _ _ _ _ _); cbv) | ((with_reducible show goD _ _ _ _ _ _); cbv) | ((with_reducible show okWr _ _ = _); rfl) | ((with_reducible refine callK_eq hA hP ?_ ?_ ?_ (Wks.refl _) (fun _ _ => h66)); exact rfl; exact rfl; cbv) | ((with_reducible refine callK_eq hA hP ?_ ?_ ?_ (Wks.refl _) (fun _ _ => h67)); exact rfl; exact rfl; cbv) | ((with_reducible refine hA.row x _ _ ⟨hin, fun row hrow => ?_⟩); rw [e1] at hrow; subst hrow; cbv) | ((with_reducible refine hA.fin_pl _ _ _ ?_); cbv) | ((with_reducible refine hA.len _ _ _ _ _ fun z hz hb => ?_); cbv) | ((with_reducible refine hA.off _ _ _ _ fun b hb => ?_); cbv) | ((with_reducible refine hA.plus _ _ _ fun b hb => ?_); cbv) | ((with_reducible refine hA.st _ _ _ _ _ ⟨?_, fun ds hds => ?_⟩); rotate_left; cbv) | ((with_reducible refine hA.sapp _ _ _ ⟨?_, fun sl hsl => ?_⟩); rotate_left; cbv) | ((with_reducible refine hA.gb0 true _ ?_); cbv) | ((with_reducible refine hA.gb0 false _ ?_); cbv) | ((with_reducible refine hA.gb _ _ fun vb hvb => ?_); cbv) | (simp only [hA.natLit, hA.natOf, hA.natCast]; cbv)
    all_goals try simp only [hA.add, hA.sub, hA.mul, hA.neg, hA.div, hA.mod, hA.mn, hA.mx, hA.eq, hA.lt, hA.le, hA.nat, hA.R, hA.lep, hA.ltp, hA.seq, inR, n_cast, Int.ofNat_eq_natCast, Option.getD_some, Option.getD_none] at *
    all_goals try (first
      | omega
      | (clear hK2 hd gi h66 h67; simp at *; omega)
      | (clear hK2 hd gi h66 h67; grind; done))
    · have hf : g = false := by
        rw [Bool.eq_false_iff]
        intro q
        obtain ⟨a1, a2, a3, _⟩ := gi.1 q
        clear hK2 hd gi h66 h67
        simp at *
        grind
      rw [hd hf]
    · have hpre : g = true ↔ ∀ r ∈ rs1, (r.length : Int) = c1 := by
        rw [gi]
        have : nb = true ∧ (1 ≤ c1 ∧ c1 ≤ 16) ∧ fi = ↑i.toNat := by
          clear hK2 hd gi h66 h67
          simp at *
          grind
        exact ⟨fun q => q.2.2.2, fun q => ⟨this.1, this.2.1, this.2.2, q⟩⟩
      clear gi h66 h67
      refine hA.loopI (fun mm s => ∃ jj : Int, 0 ≤ jj ∧ mm + jj = x1.length ∧ (∀ (k : Nat) r', (k : Int) < jj → rs1[k]? = some r' → (r'.length : Int) = c1) ∧
          s = ⟨[(6, .int jj), (5, .ref 1 0), (4, .int i), (3, .int rows), (2, .bool false), (1, .ref 0 0)], [.box [.e (.sl x)], .box [.str n1, .int c1, .e (.sl x1)]]⟩) x1.length _
        (Weak.keep (env' := [(6, .int 0), (5, .ref 1 0), (4, .int i), (3, .int rows), (2, .bool false), (1, .ref 0 0)]) ⟨rfl, rfl, rfl, rfl, rfl, rfl, trivial⟩) ⟨0, by omega, by omega, fun k r' hk => by omega, rfl⟩ ?_
      rintro mm s K3 ⟨jj, j0, j1, j2, rfl⟩ hK3
      by_cases hjn : (0 : Int) ≤ jj ∧ jj < x1.length
      · obtain ⟨r1, e2, q2⟩ := row_at hx1 hjn
        obtain ⟨y1, hy1⟩ : ∃ y, y = r1.map vr := ⟨_, rfl⟩
        have e2 : x1.getD jj.toNat [] = [E.sl y1] := e2.trans (by rw [hy1])
        have hly : y1.length = r1.length := by rw [hy1]; simp
        have k1 : ¬ (r1.length : Int) = c1 → r = false := fun q => hd (by
          rw [Bool.eq_false_iff]
          intro q'
          exact q (hpre.1 q' r1 (List.mem_of_getElem? q2)))
        have k2 : (r1.length : Int) = c1 → ∀ s1, Weak (hpF []) s1 ⟨[(6, .int (jj + 1)), (5, .ref 1 0), (4, .int i), (3, .int rows), (2, .bool false), (1, .ref 0 0)], [.box [.e (.sl x)], .box [.str n1, .int c1, .e (.sl x1)]]⟩ → K3 s1 := fun q s1 hw => by
          refine hK3 s1 (mm - 1) _ (by omega) hw ⟨jj + 1, by omega, by omega, fun k r' hk hr' => ?_, rfl⟩
          by_cases hkj : (k : Int) < jj
          · exact j2 k r' hkj hr'
          · have : k = jj.toNat := by omega
            subst this
            rw [q2] at hr'
            cases hr'
            exact q
        clear hK3 hK2 hd hpre j2
        cbv
        repeat' first | with_reducible rfl | with_reducible refine And.intro ?_ ?_ | ((with_reducible intro hcc); first | (cases hcc; done) | skip) | ((with_reducible show goC _ _ _ _ _ _ _ _); cbv) | ((with_reducible show goOps _ _ _ _ _); cbv) | ((with_reducible show goD _ _ _ _ _ _); cbv) | ((with_reducible show okWr _ _ = _); rfl) | ((with_reducible refine hA.row x1 _ _ ⟨hjn, fun row hrow => ?_⟩); rw [e2] at hrow; subst hrow; cbv) | ((with_reducible refine hA.fin_pl _ _ _ ?_); cbv) | ((with_reducible refine hA.len _ _ _ _ _ fun z hz hb => ?_); cbv) | ((with_reducible refine hA.off _ _ _ _ fun b hb => ?_); cbv) | ((with_reducible refine hA.plus _ _ _ fun b hb => ?_); cbv) | ((with_reducible refine hA.st _ _ _ _ _ ⟨?_, fun ds hds => ?_⟩); rotate_left; cbv) | ((with_reducible refine hA.sapp _ _ _ ⟨?_, fun sl hsl => ?_⟩); rotate_left; cbv) | ((with_reducible refine hA.gb0 true _ ?_); cbv) | ((with_reducible refine hA.gb0 false _ ?_); cbv) | ((with_reducible refine hA.gb _ _ fun vb hvb => ?_); cbv) | (simp only [hA.natLit, hA.natOf, hA.natCast]; cbv)
        all_goals try simp only [hA.add, hA.sub, hA.mul, hA.neg, hA.div, hA.mod, hA.mn, hA.mx, hA.eq, hA.lt, hA.le, hA.nat, hA.R, hA.lep, hA.ltp, hA.seq, inR, n_cast, Int.ofNat_eq_natCast, Option.getD_some, Option.getD_none] at *
        all_goals first
          | omega
          | (rw [k1 (by clear k1 k2 hx hx1 e1 e2 hy1; grind)]; done)
          | (exact k2 (by clear k1 k2 hx hx1 e1 e2 hy1; grind) _ (Weak.keep ⟨rfl, rfl, rfl, rfl, rfl, rfl, trivial⟩))
          | (clear k1 k2; simp at *; omega)
          | (clear k1 k2; grind; done)
          | (trace_state; fail)
      · have hgt : g = true := hpre.2 fun r' hr' => by
          obtain ⟨k, hk, e⟩ := List.getElem_of_mem hr'
          exact j2 k r' (by omega) (by rw [← e]; simp [hk])
        have hK4 := hK2 hgt
        clear hK3 hK2 hd hpre j2
        cbv
        repeat' first | with_reducible rfl | with_reducible refine And.intro ?_ ?_ | ((with_reducible intro hcc); first | (cases hcc; done) | skip) | ((with_reducible show goC _ _ _ _ _ _ _ _); cbv) | ((with_reducible show goOps _ _ _ _ _); cbv) | ((with_reducible show goD _ _ _ _ _ _); cbv) | ((with_reducible show okWr _ _ = _); rfl) | (exfalso; simp only [hA.lt, hA.sub, decide_eq_true_eq, decide_eq_false_iff_not, n_cast] at *; omega) | ((with_reducible refine hA.fin_pl _ _ _ ?_); cbv) | ((with_reducible refine hA.len _ _ _ _ _ fun z hz hb => ?_); cbv) | ((with_reducible refine hA.off _ _ _ _ fun b hb => ?_); cbv) | ((with_reducible refine hA.plus _ _ _ fun b hb => ?_); cbv) | ((with_reducible refine hA.st _ _ _ _ _ ⟨?_, fun ds hds => ?_⟩); rotate_left; cbv) | ((with_reducible refine hA.sapp _ _ _ ⟨?_, fun sl hsl => ?_⟩); rotate_left; cbv) | ((with_reducible refine hA.gb0 true _ ?_); cbv) | ((with_reducible refine hA.gb0 false _ ?_); cbv) | ((with_reducible refine hA.gb _ _ fun vb hvb => ?_); cbv) | (simp only [hA.natLit, hA.natOf, hA.natCast]; cbv)
        all_goals try simp only [hA.add, hA.sub, hA.mul, hA.neg, hA.div, hA.mod, hA.mn, hA.mx, hA.eq, hA.lt, hA.le, hA.nat, hA.R, hA.lep, hA.ltp, hA.seq, inR, n_cast, Int.ofNat_eq_natCast, Option.getD_some, Option.getD_none] at *
        all_goals first
          | omega
          | (refine hK4 _ ?_ _ (Weak.ren (l0 := []) [0] (fun t => [(4, .int (i + 1)), (3, .int _), (2, .bool false), (1, .ref (t 0) 0)]) (fun t => [.box [.e (.sl x)]]) rfl ⟨.inl rfl, .inl rfl, .inl rfl, .inl rfl, trivial⟩ ⟨rfl, trivial⟩ ⟨fun t => rfl, rfl, fun t => rfl, by simp [O.lt, lts, D.lt]⟩)
             omega)
          | (clear hK4; simp at *; omega)
          | (trace_state; fail)
  · have hd0 : ts.drop i.toNat = [] := by rw [List.drop_eq_nil_iff]; omega
    rw [hd0] at h3
    have h3 : rows + 0 = sumC rlen ts := h3
    have hr3 := d3 h50 fun j t ht => h4 j t (by have := (List.getElem?_eq_some_iff.1 ht).1; omega) ht
    clear hK h4 d1 d2 d3
    cbv
    repeat' first | with_reducible rfl | with_reducible refine And.intro ?_ ?_ | ((with_reducible intro hcc); first | (cases hcc; done) | skip) | ((with_reducible show goC _ _ _ _ _ _ _ _); cbv) | ((with_reducible show goOps _ _ _ _ _); cbv) | ((with_reducible show goD _ _ _ _ _ _); cbv) | ((with_reducible show okWr _ _ = _); rfl) | (exfalso; simp only [hA.lt, hA.sub, decide_eq_true_eq, decide_eq_false_iff_not, n_cast] at *; omega) | ((with_reducible refine hA.fin_pl _ _ _ ?_); cbv) | ((with_reducible refine hA.len _ _ _ _ _ fun z hz hb => ?_); cbv) | ((with_reducible refine hA.off _ _ _ _ fun b hb => ?_); cbv) | ((with_reducible refine hA.plus _ _ _ fun b hb => ?_); cbv) | ((with_reducible refine hA.st _ _ _ _ _ ⟨?_, fun ds hds => ?_⟩); rotate_left; cbv) | ((with_reducible refine hA.sapp _ _ _ ⟨?_, fun sl hsl => ?_⟩); rotate_left; cbv) | ((with_reducible refine hA.gb0 true _ ?_); cbv) | ((with_reducible refine hA.gb0 false _ ?_); cbv) | ((with_reducible refine hA.gb _ _ fun vb hvb => ?_); cbv) | (simp only [hA.natLit, hA.natOf, hA.natCast]; cbv)
    all_goals try simp only [hA.add, hA.sub, hA.mul, hA.neg, hA.div, hA.mod, hA.mn, hA.mx, hA.eq, hA.lt, hA.le, hA.nat, hA.R, hA.lep, hA.ltp, hA.seq, inR, n_cast, Int.ofNat_eq_natCast, Option.getD_some, Option.getD_none] at *
    all_goals first
      | (rw [hr3, ← h3, Int.add_zero]; done)
      | omega
      | (trace_state; fail))
end Go.Proofs.Ytfplalbognalkaa.Ab
