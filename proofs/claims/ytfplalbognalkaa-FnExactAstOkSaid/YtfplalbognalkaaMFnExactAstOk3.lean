/- The laws' helpers over rows of rows and tables: measured, copied, alike. -/
import Derived.Test.YtfplalbognalkaaMFnExactAstOk2
set_option linter.unusedSimpArgs false
set_option linter.unusedVariables false
set_option linter.unnecessarySimpa false
set_option linter.constructorNameAsVariable false
namespace Go.Proofs.Ytfplalbognalkaa.Ab
open Go
abbrev rsr (r : List (Bool × Int)) : List E := [E.sl (r.map vr)]
abbrev Tb := List UInt8 × Int × List (List (Bool × Int))
abbrev tbr (t : Tb) : List E := [E.str t.1, E.int t.2.1, E.sl (t.2.2.map rsr)]
theorem row_at {α : Type} {f : α → List E} {l : List α} {es : List (List E)} (he : es = l.map f) {n : Int} (h : 0 ≤ n ∧ n < es.length) : ∃ p, es.getD n.toNat [] = f p ∧ l[n.toNat]? = some p := by
  subst he
  have hn : n.toNat < l.length := by simp at h; omega
  exact ⟨l[n.toNat], by simp [List.getD, hn], by simp [hn]⟩
/-- What is left of a budget; -1: it did not do. -/
def cut (left t : Int) : Int := if left - t < 0 then -1 else left - t
def sumC {α : Type} (c : α → Int) : List α → Int
  | [] => 0
  | a :: l => c a + sumC c l
theorem sumC_nonneg {α : Type} {c : α → Int} (h : ∀ a, 0 ≤ c a) : ∀ l : List α, 0 ≤ sumC c l
  | [] => Int.le_refl _
  | a :: l => by have := h a; have := sumC_nonneg h l; simp only [sumC]; omega
theorem sumC_drop {α : Type} {c : α → Int} {l : List α} {i : Nat} {p : α} (h : l[i]? = some p) : sumC c (l.drop i) = c p + sumC c (l.drop (i + 1)) := by
  obtain ⟨a, b⟩ := List.getElem?_eq_some_iff.1 h
  rw [List.drop_eq_getElem_cons a, b]
  rfl
theorem sumC_mem {α : Type} {c : α → Int} (h : ∀ a, 0 ≤ c a) {l : List α} {p : α} (hp : p ∈ l) : c p ≤ sumC c l := by
  induction l with
  | nil => cases hp
  | cons a l ih =>
    simp only [sumC]
    have := h a
    have := sumC_nonneg h l
    rcases List.mem_cons.1 hp with rfl | hp
    · omega
    · have := ih hp; omega
def cV (r : List (Bool × Int)) : Int := r.length
theorem cV_nonneg (r : List (Bool × Int)) : 0 ≤ cV r := by unfold cV; omega
def cSS (rs : List (List (Bool × Int))) : Int := rs.length + sumC cV rs
theorem cSS_nonneg (rs : List (List (Bool × Int))) : 0 ≤ cSS rs := by have := sumC_nonneg cV_nonneg rs; unfold cSS; omega
def cT (t : Tb) : Int := t.1.length + cSS t.2.2
theorem cT_nonneg (t : Tb) : 0 ≤ cT t := by have := cSS_nonneg t.2.2; unfold cT; omega
def cTS (ts : List Tb) : Int := ts.length + sumC cT ts
theorem cTS_nonneg (ts : List Tb) : 0 ≤ cTS ts := by have := sumC_nonneg cT_nonneg ts; unfold cTS; omega
theorem ok57c (r : List (Bool × Int)) (x : List (List E)) (hx : x = r.map vr) (left : Int) (h : 0 ≤ left ∧ left ≤ 1048576) : Plain Try.prog 57 [.e (.sl x), .int left] (.int (cut left (cV r))) := by
  have := ok57 x left h
  rw [show x.length = r.length by rw [hx]; simp] at this
  exact this
set_option maxRecDepth 100000 in
theorem ok16 (l : List (List (Bool × Int))) (es : List (List E)) (he : es = l.map rsr) (left : Int) (h : 0 ≤ left ∧ left ≤ 1048576) : Plain Try.prog 16 [.e (.sl es), .int left] (.int (cut left (l.length + sumC cV l))) := okOf mixed p16 fun A P hA hP => (by
  have hl1 : es.length = l.length := by rw [he]; simp
  have hsn : ∀ l : List (List (Bool × Int)), 0 ≤ sumC cV l := sumC_nonneg cV_nonneg
  obtain ⟨r, hr⟩ : ∃ r, r = cut left (l.length + sumC cV l) := ⟨_, rfl⟩
  rw [← hr]
  have hr2 : r = cut (left - es.length) (sumC cV l) := by rw [hr, hl1, cut, cut]; congr 1 <;> (try apply propext) <;> omega
  clear hr
  cbv
  repeat' first | with_reducible rfl | with_reducible refine And.intro ?_ ?_ | ((with_reducible intro hcc); first | (cases hcc; done) | skip) | ((with_reducible show goC _ _ _ _ _ _ _ _); cbv) | ((with_reducible show goOps _ _ _ _ _); cbv) | ((with_reducible show okWr _ _ = _); rfl) | ((with_reducible refine hA.fin_pl _ _ _ ?_); cbv) | ((with_reducible refine hA.len _ _ _ _ _ fun z hz hb => ?_); cbv) | ((with_reducible refine hA.off _ _ _ _ fun b hb => ?_); cbv) | ((with_reducible refine hA.sapp _ _ _ ⟨?_, fun sl hsl => ?_⟩); rotate_left; cbv) | (simp only [hA.natLit, hA.natOf, hA.natCast]; cbv)
  all_goals try simp only [hA.add, hA.sub, hA.mul, hA.neg, hA.div, hA.mod, hA.mn, hA.mx, hA.eq, hA.lt, hA.le, hA.nat, hA.R, hA.lep, hA.ltp, hA.seq, inR, n_cast, Int.ofNat_eq_natCast, Option.getD_some, Option.getD_none] at *
  all_goals try (first | omega | (have := hb trivial trivial trivial; omega) | (have : r = -1 := (by simp only [decide_eq_true_eq] at *; have := hsn l; rw [hr2]; unfold cut; split <;> omega); rw [this]; done))
  · refine hA.loopI (fun n s => ∃ (i lf : Int), 0 ≤ i ∧ n + i = es.length ∧ 0 ≤ lf ∧ lf ≤ 1048576 ∧ r = cut lf (sumC cV (l.drop i.toNat)) ∧
        s = ⟨[(5, .int i), (0, .e (.sl es)), (1, .int lf), (4, .int 0)], []⟩) es.length _
      (Weak.keep (env' := [(5, .int 0), (0, .e (.sl es)), (1, .int (left - z)), (4, .int 0)]) ⟨rfl, rfl, rfl, rfl, trivial⟩) ⟨0, left - z, by omega, by omega, by simp only [decide_eq_false_iff_not] at *; omega, by omega, (by rw [hr2, hz]; rfl), rfl⟩ ?_
    rintro n s K ⟨i, lf, h0, h1, h2, h3, h4, rfl⟩ hK
    clear hr2
    by_cases hin : (0 : Int) ≤ i ∧ i < es.length
    · obtain ⟨r1, e1, q1⟩ := row_at he hin
      obtain ⟨x1, hx1⟩ : ∃ x, x = r1.map vr := ⟨_, rfl⟩
      have e1 : es.getD i.toNat [] = [E.sl x1] := e1.trans (by rw [hx1])
      rw [sumC_drop q1] at h4
      obtain ⟨S, hS⟩ : ∃ S, S = sumC cV (l.drop (i.toNat + 1)) := ⟨_, rfl⟩
      have hS0 : 0 ≤ S := hS ▸ hsn _
      obtain ⟨c, hcost⟩ : ∃ c, c = cV r1 := ⟨_, rfl⟩
      have hc0 : 0 ≤ c := hcost ▸ cV_nonneg _
      have hc := ok57c r1 x1 hx1 lf ⟨h2, h3⟩
      rw [← hS, ← hcost] at h4
      rw [← hcost] at hc
      obtain ⟨u, hu⟩ : ∃ u, u = cut lf c := ⟨_, rfl⟩
      rw [← hu] at hc
      have e8 : (i + 1).toNat = i.toNat + 1 := by omega
      have g1 : u < 0 → r = -1 := fun a => by rw [h4]; unfold cut at hu ⊢; split at hu <;> split <;> omega
      have g2 : 0 ≤ u → r = cut u S ∧ u ≤ lf := fun a => by
        have hu2 : u = lf - c := by rw [hu] at a ⊢; unfold cut at a ⊢; split at a <;> split <;> omega
        refine ⟨?_, by omega⟩
        rw [h4, hu2]
        unfold cut
        rw [show lf - (c + S) = lf - c - S by omega]
      clear h4 hu hcost
      cbv
      repeat' first | with_reducible rfl | with_reducible refine And.intro ?_ ?_ | ((with_reducible intro hcc); first | (cases hcc; done) | skip) | ((with_reducible show goC _ _ _ _ _ _ _ _); cbv) | ((with_reducible show goOps _ _ _ _ _); cbv) | ((with_reducible show okWr _ _ = _); rfl) | ((with_reducible refine callK_eq hA hP ?_ ?_ ?_ (Wks.refl _) (fun _ _ => hc)); exact rfl; exact rfl; cbv) | ((with_reducible refine hA.row es _ _ ⟨hin, fun row hrow => ?_⟩); rw [e1] at hrow; subst hrow; cbv) | ((with_reducible refine hA.fin_pl _ _ _ ?_); cbv) | ((with_reducible refine hA.len _ _ _ _ _ fun z hz hb => ?_); cbv) | ((with_reducible refine hA.off _ _ _ _ fun b hb => ?_); cbv) | ((with_reducible refine hA.sapp _ _ _ ⟨?_, fun sl hsl => ?_⟩); rotate_left; cbv) | (simp only [hA.natLit, hA.natOf, hA.natCast]; cbv)
      all_goals try simp only [hA.add, hA.sub, hA.mul, hA.neg, hA.div, hA.mod, hA.mn, hA.mx, hA.eq, hA.lt, hA.le, hA.nat, hA.R, hA.lep, hA.ltp, hA.seq, inR, n_cast, Int.ofNat_eq_natCast, Option.getD_some, Option.getD_none] at *
      all_goals first
        | omega
        | (clear hK g1 g2 he; simp at *; omega)
        | (rw [g1 (by clear hK g2; simp at *; omega)]; done)
        | (have hu0 : 0 ≤ u := (by clear hK; simp at *; omega)
           exact hK _ (n - 1) _ (by omega) (Weak.keep (env' := [(5, .int (i + 1)), (0, .e (.sl es)), (1, .int u), (4, .int 0)]) ⟨rfl, rfl, rfl, rfl, trivial⟩) ⟨i + 1, u, by omega, by omega, hu0, by have := (g2 hu0).2; omega, by rw [e8, ← hS]; exact (g2 hu0).1, rfl⟩)
        | (clear hK g1 g2 he; simp at *; omega)
        | (trace_state; fail)
    · have hd : l.drop i.toNat = [] := by rw [List.drop_eq_nil_iff]; omega
      rw [hd] at h4
      have h5 : r = lf := by rw [h4, sumC, cut, if_neg (by omega)]; omega
      clear h4 hK
      cbv
      repeat' first | with_reducible rfl | with_reducible refine And.intro ?_ ?_ | ((with_reducible intro hcc); first | (cases hcc; done) | skip) | ((with_reducible show goC _ _ _ _ _ _ _ _); cbv) | ((with_reducible show goOps _ _ _ _ _); cbv) | ((with_reducible show okWr _ _ = _); rfl) | (exfalso; simp only [hA.lt, hA.sub, decide_eq_true_eq, decide_eq_false_iff_not, n_cast] at *; omega) | ((with_reducible refine hA.fin_pl _ _ _ ?_); cbv) | ((with_reducible refine hA.len _ _ _ _ _ fun z hz hb => ?_); cbv) | ((with_reducible refine hA.off _ _ _ _ fun b hb => ?_); cbv) | ((with_reducible refine hA.sapp _ _ _ ⟨?_, fun sl hsl => ?_⟩); rotate_left; cbv) | (simp only [hA.natLit, hA.natOf, hA.natCast]; cbv)
      all_goals try simp only [hA.add, hA.sub, hA.mul, hA.neg, hA.div, hA.mod, hA.mn, hA.mx, hA.eq, hA.lt, hA.le, hA.nat, hA.R, hA.lep, hA.ltp, hA.seq, inR, n_cast, Int.ofNat_eq_natCast, Option.getD_some, Option.getD_none] at *
      all_goals first
        | (rw [h5])
        | omega
        | (clear he; simp at *; omega)
        | (trace_state; fail))
set_option maxRecDepth 100000 in
set_option maxHeartbeats 1000000 in
theorem ok18 (l : List (List (Bool × Int))) (es : List (List E)) (he : es = l.map rsr) (hlen : es.length ≤ 1048576) (hb2 : ∀ r ∈ l, r.length ≤ 1048576) : Plain Try.prog 18 [.e (.sl es)] (.e (.sl es)) := okOf mixed p18 fun A P hA hP => (by
  have hl1 : es.length = l.length := by rw [he]; simp
  have hes : ∀ e ∈ es, e.length = 1 := by
    rw [he]
    intro e h
    obtain ⟨p, _, rfl⟩ := List.mem_map.1 h
    rfl
  cbv
  repeat' first | with_reducible rfl | with_reducible refine And.intro ?_ ?_ | ((with_reducible intro hcc); first | (cases hcc; done) | skip) | ((with_reducible show goC _ _ _ _ _ _ _ _); cbv) | ((with_reducible show goOps _ _ _ _ _); cbv) | ((with_reducible show okWr _ _ = _); rfl) | ((with_reducible refine hA.fin_pl _ _ _ ?_); cbv) | ((with_reducible refine hA.len _ _ _ _ _ fun z hz hb => ?_); cbv) | ((with_reducible refine hA.off _ _ _ _ fun b hb => ?_); cbv) | ((with_reducible refine hA.rep _ _ _ fun ds m hds hm => ?_); cbv) | ((with_reducible refine hA.st _ _ _ _ _ ⟨?_, fun ds hds => ?_⟩); rotate_left; cbv) | ((with_reducible refine hA.alt _ _ (Or.inl ?_)); cbv) | ((with_reducible refine hA.sapp _ _ _ ⟨?_, fun sl hsl => ?_⟩); rotate_left; cbv) | (simp only [hA.natLit, hA.natOf, hA.natCast]; cbv)
  all_goals try simp only [hA.add, hA.sub, hA.mul, hA.neg, hA.div, hA.mod, hA.mn, hA.mx, hA.eq, hA.lt, hA.le, hA.nat, hA.R, hA.lep, hA.ltp, hA.seq, inR, n_cast, Int.ofNat_eq_natCast, Option.getD_some, Option.getD_none] at *
  · omega
  · omega
  · refine hA.loopI (fun n s => ∃ (i : Int) (xs : List (List E)), 0 ≤ i ∧ n + i = es.length ∧ xs.length = es.length ∧ (∀ e ∈ xs, e.length = 1) ∧ (∀ j : Nat, j < i → xs[j]? = es[j]?) ∧
        s = ⟨[(4, .int i), (3, .bs 0 0 m 1), (2, .zs), (0, .e (.sl es))], [.box (xs.flatten.map .e)]⟩) es.length _
      (Weak.keep (env' := [(4, .int 0), (3, .bs 0 0 m 1), (2, .zs), (0, .e (.sl es))]) ⟨rfl, rfl, rfl, rfl, trivial⟩)
      ⟨0, List.replicate m [E.sl []], by omega, by omega, by simp; omega, by simp, fun j hj => by omega, by rw [← buf_zero, hm]; rw [hds]; rfl⟩ ?_
    rintro n s K ⟨i, xs, h0, h1, h2, h3, h4, rfl⟩ hK
    obtain ⟨ys, hys⟩ : ∃ ys, ys = xs.flatten.map D.e := ⟨_, rfl⟩
    have hyl : ys.length = xs.length * 1 := by rw [hys, List.length_map, flatten_len h3]
    rw [← hys]
    by_cases hin : (0 : Int) ≤ i ∧ i < es.length
    · obtain ⟨r1, e1, q1⟩ := row_at he hin
      obtain ⟨x1, hx1⟩ : ∃ x, x = r1.map vr := ⟨_, rfl⟩
      have e1 : es.getD i.toNat [] = [E.sl x1] := e1.trans (by rw [hx1])
      have hc := ok58 r1 x1 hx1 (by have := hb2 r1 (List.mem_of_getElem? q1); rw [hx1, List.length_map]; omega)
      have hrow0 : es[i.toNat]? = some (es.getD i.toNat []) := by
        have : i.toNat < es.length := by omega
        simp [List.getD, this]
      have hrl : (es.getD i.toNat []).length = 1 := hes _ (List.mem_of_getElem? hrow0)
      cbv
      repeat' first | with_reducible rfl | with_reducible refine And.intro ?_ ?_ | ((with_reducible intro hcc); first | (cases hcc; done) | skip) | ((with_reducible show goC _ _ _ _ _ _ _ _); cbv) | ((with_reducible show goOps _ _ _ _ _); cbv) | ((with_reducible show okWr _ _ = _); rfl) | ((with_reducible refine callK_eq hA hP ?_ ?_ ?_ (Wks.refl _) (fun _ _ => hc)); exact rfl; exact rfl; cbv) | ((with_reducible refine hA.row es _ _ ⟨hin, fun row hrow => ?_⟩); rw [e1] at hrow; subst hrow; cbv) | ((with_reducible refine hA.fin_pl _ _ _ ?_); cbv) | ((with_reducible refine hA.len _ _ _ _ _ fun z hz hb => ?_); cbv) | ((with_reducible refine hA.off _ _ _ _ fun b hb => ?_); cbv) | ((with_reducible refine hA.rep _ _ _ fun ds m hds hm => ?_); cbv) | ((with_reducible refine hA.st _ _ _ _ _ ⟨?_, fun ds hds => ?_⟩); rotate_left; cbv) | ((with_reducible refine hA.alt _ _ (Or.inl ?_)); cbv) | ((with_reducible refine hA.sapp _ _ _ ⟨?_, fun sl hsl => ?_⟩); rotate_left; cbv) | (simp only [hA.natLit, hA.natOf, hA.natCast]; cbv)
      all_goals try simp only [hA.add, hA.sub, hA.mul, hA.neg, hA.div, hA.mod, hA.mn, hA.mx, hA.eq, hA.lt, hA.le, hA.nat, hA.R, hA.lep, hA.ltp, hA.seq, inR, n_cast, Int.ofNat_eq_natCast, Option.getD_some, Option.getD_none] at *
      all_goals first
        | (show _ < (m : Int); omega)
        | omega
        | (clear hK h4 he; grind; done)
        | (have hb' : b = i.toNat * 1 := by omega
           refine hK _ (n - 1) _ (by omega) (Weak.keep (env' := [(4, .int (i + 1)), (3, .bs 0 0 m 1), (2, .zs), (0, .e (.sl es))]) ⟨rfl, rfl, rfl, rfl, trivial⟩)
             ⟨i + 1, xs.set i.toNat (es.getD i.toNat []), by omega, by omega, by simp [h2], fun e h => ?_, fun j hj => ?_, ?_⟩
           · rcases List.mem_or_eq_of_mem_set h with h | rfl
             · exact h3 e h
             · exact hrl
           · by_cases hji : (j : Int) < i
             · rw [List.getElem?_set_ne (show i.toNat ≠ j by omega)]; exact h4 j hji
             · have : j = i.toNat := by omega
               subst this
               rw [List.getElem?_set_self (show i.toNat < xs.length by omega), hrow0]
           · congr 2
             rw [hds, hys, hb']
             congr 1
             have q := buf_set (k := 1) (by omega) h3 (i := i.toNat) (show i.toNat < xs.length by omega) hrl
             rw [e1] at q ⊢
             exact q)
    · have hxe : xs = es := by
        refine List.ext_getElem? fun j => ?_
        by_cases hj : (j : Int) < i
        · exact h4 j hj
        · rw [List.getElem?_eq_none (by omega), List.getElem?_eq_none (by omega)]
      cbv
      repeat' first | with_reducible rfl | with_reducible refine And.intro ?_ ?_ | ((with_reducible intro hcc); first | (cases hcc; done) | skip) | ((with_reducible show goC _ _ _ _ _ _ _ _); cbv) | ((with_reducible show goOps _ _ _ _ _); cbv) | ((with_reducible show okWr _ _ = _); rfl) | (exfalso; simp only [hA.lt, hA.sub, decide_eq_true_eq, decide_eq_false_iff_not, n_cast] at *; omega) | ((with_reducible refine hA.fin_bs (es := es) ?_ ?_ hes)) | ((with_reducible refine hA.fin_pl _ _ _ ?_); cbv) | ((with_reducible refine hA.len _ _ _ _ _ fun z hz hb => ?_); cbv) | ((with_reducible refine hA.off _ _ _ _ fun b hb => ?_); cbv) | ((with_reducible refine hA.rep _ _ _ fun ds m hds hm => ?_); cbv) | ((with_reducible refine hA.st _ _ _ _ _ ⟨?_, fun ds hds => ?_⟩); rotate_left; cbv) | ((with_reducible refine hA.alt _ _ (Or.inl ?_)); cbv) | ((with_reducible refine hA.sapp _ _ _ ⟨?_, fun sl hsl => ?_⟩); rotate_left; cbv) | (simp only [hA.natLit, hA.natOf, hA.natCast]; cbv)
      all_goals try simp only [hA.add, hA.sub, hA.mul, hA.neg, hA.div, hA.mod, hA.mn, hA.mx, hA.eq, hA.lt, hA.le, hA.nat, hA.R, hA.lep, hA.ltp, hA.seq, inR, n_cast, Int.ofNat_eq_natCast, Option.getD_some, Option.getD_none] at *
      all_goals first
        | (rw [hys, hxe]; rfl)
        | omega
        | (clear hK h4 he; grind; done)
        | (trace_state; fail))
set_option maxRecDepth 100000 in
theorem ok19 (l l' : List (List (Bool × Int))) (es fs : List (List E)) (he : es = l.map rsr) (hf : fs = l'.map rsr) : Plain Try.prog 19 [.e (.sl es), .e (.sl fs)] (.bool (decide (l = l'))) := okOf mixed p19 fun A P hA hP => (by
  obtain ⟨r, hr⟩ : ∃ r : Bool, r = decide (l = l') := ⟨_, rfl⟩
  rw [← hr]
  have hl1 : es.length = l.length := by rw [he]; simp
  have hl2 : fs.length = l'.length := by rw [hf]; simp
  cbv
  repeat' first | with_reducible rfl | with_reducible refine And.intro ?_ ?_ | ((with_reducible intro hcc); first | (cases hcc; done) | skip) | ((with_reducible show goC _ _ _ _ _ _ _ _); cbv) | ((with_reducible show goOps _ _ _ _ _); cbv) | ((with_reducible show okWr _ _ = _); rfl) | ((with_reducible refine hA.fin_pl _ _ _ ?_); cbv) | ((with_reducible refine hA.len _ _ _ _ _ fun z hz hb => ?_); cbv) | ((with_reducible refine hA.off _ _ _ _ fun b hb => ?_); cbv) | ((with_reducible refine hA.sapp _ _ _ ⟨?_, fun sl hsl => ?_⟩); rotate_left; cbv) | (simp only [hA.natLit, hA.natOf, hA.natCast]; cbv)
  all_goals try simp only [hA.add, hA.sub, hA.mul, hA.neg, hA.div, hA.mod, hA.mn, hA.mx, hA.eq, hA.lt, hA.le, hA.nat, hA.R, hA.lep, hA.ltp, hA.seq, inR, n_cast, Int.ofNat_eq_natCast, Option.getD_some, Option.getD_none] at *
  · have : l ≠ l' := fun e => by subst e; clear hr; grind
    rw [hr]; simp [this]
  · have hzz : es.length = fs.length := by clear hr; grind
    refine hA.loopI (fun n s => ∃ i : Int, 0 ≤ i ∧ n + i = l.length ∧ (∀ j : Nat, j < i → l[j]? = l'[j]?) ∧ s = ⟨[(5, .int i), (4, .bool false), (0, .e (.sl es)), (1, .e (.sl fs))], []⟩) l.length _ (Weak.keep (env' := [(5, .int 0), (4, .bool false), (0, .e (.sl es)), (1, .e (.sl fs))]) ⟨rfl, rfl, rfl, rfl, trivial⟩) ⟨0, by omega, by omega, fun j hj => by omega, rfl⟩ ?_
    rintro n s K ⟨i, h0, h1, h2, rfl⟩ hK
    by_cases hin : (0 : Int) ≤ i ∧ i < es.length
    · have hin2 : (0 : Int) ≤ i ∧ i < fs.length := by omega
      obtain ⟨r1, e1, q1⟩ := row_at he hin
      obtain ⟨r2, e2, q2⟩ := row_at hf hin2
      obtain ⟨x1, hx1⟩ : ∃ x, x = r1.map vr := ⟨_, rfl⟩
      have e1 : es.getD i.toNat [] = [E.sl x1] := e1.trans (by rw [hx1])
      obtain ⟨x2, hx2⟩ : ∃ x, x = r2.map vr := ⟨_, rfl⟩
      have e2 : fs.getD i.toNat [] = [E.sl x2] := e2.trans (by rw [hx2])
      have hc := ok59 r1 r2 x1 x2 hx1 hx2
      obtain ⟨c, hcc⟩ : ∃ c : Bool, c = decide ((r1 : List (Bool × Int)) = r2) := ⟨_, rfl⟩
      rw [← hcc] at hc
      have c1 : c = false → r = false := fun e => by
        rw [hr, decide_eq_false_iff_not]
        intro e'
        subst e'
        rw [q1] at q2
        cases q2
        rw [e] at hcc
        simp at hcc
      have c2 : c = true → l[i.toNat]? = l'[i.toNat]? := fun e => by
        rw [e] at hcc
        rw [q1, q2, of_decide_eq_true hcc.symm]
      clear hcc hr
      cbv
      repeat' first | with_reducible rfl | with_reducible refine And.intro ?_ ?_ | ((with_reducible intro hcc); first | (cases hcc; done) | skip) | ((with_reducible show goC _ _ _ _ _ _ _ _); cbv) | ((with_reducible show goOps _ _ _ _ _); cbv) | ((with_reducible show okWr _ _ = _); rfl) | ((with_reducible refine callK_eq hA hP ?_ ?_ ?_ (Wks.refl _) (fun _ _ => hc)); exact rfl; exact rfl; cbv) | ((with_reducible refine hA.row es _ _ ⟨hin, fun row hrow => ?_⟩); rw [e1] at hrow; subst hrow; cbv) | ((with_reducible refine hA.row fs _ _ ⟨hin2, fun row hrow => ?_⟩); rw [e2] at hrow; subst hrow; cbv) | ((with_reducible refine hA.fin_pl _ _ _ ?_); cbv) | ((with_reducible refine hA.len _ _ _ _ _ fun z hz hb => ?_); cbv) | ((with_reducible refine hA.off _ _ _ _ fun b hb => ?_); cbv) | ((with_reducible refine hA.sapp _ _ _ ⟨?_, fun sl hsl => ?_⟩); rotate_left; cbv) | (simp only [hA.natLit, hA.natOf, hA.natCast]; cbv)
      all_goals try simp only [hA.add, hA.sub, hA.mul, hA.neg, hA.div, hA.mod, hA.mn, hA.mx, hA.eq, hA.lt, hA.le, hA.nat, hA.R, hA.lep, hA.ltp, hA.seq, inR, n_cast, Int.ofNat_eq_natCast, Option.getD_some, Option.getD_none] at *
      all_goals first
        | omega
        | (refine hK _ (n - 1) _ (by omega) (Weak.gc (env' := [(5, .int (i + 1)), (4, .bool false), (0, .e (.sl es)), (1, .e (.sl fs))]) ⟨rfl, rfl, rfl, rfl, trivial⟩ rfl) ⟨i + 1, by omega, by omega, fun j hj => ?_, rfl⟩
           by_cases hji : (j : Int) < i
           · exact h2 j hji
           · have : j = i.toNat := by omega
             rw [this]
             exact c2 (by clear hK h2; grind))
        | (clear hK h2 he hf e1 e2; grind; done)
        | (trace_state; fail)
    · have hll : l = l' := by
        refine List.ext_getElem? fun j => ?_
        by_cases hj : (j : Int) < i
        · exact h2 j hj
        · rw [List.getElem?_eq_none (by omega), List.getElem?_eq_none (by omega)]
      have hr2 : r = true := by rw [hr, hll]; simp
      clear hr
      cbv
      repeat' first | with_reducible rfl | with_reducible refine And.intro ?_ ?_ | ((with_reducible intro hcc); first | (cases hcc; done) | skip) | ((with_reducible show goC _ _ _ _ _ _ _ _); cbv) | ((with_reducible show goOps _ _ _ _ _); cbv) | ((with_reducible show okWr _ _ = _); rfl) | (exfalso; simp only [hA.lt, hA.sub, decide_eq_true_eq, decide_eq_false_iff_not, n_cast] at *; omega) | ((with_reducible refine hA.fin_pl _ _ _ ?_); cbv) | ((with_reducible refine hA.len _ _ _ _ _ fun z hz hb => ?_); cbv) | ((with_reducible refine hA.off _ _ _ _ fun b hb => ?_); cbv) | ((with_reducible refine hA.sapp _ _ _ ⟨?_, fun sl hsl => ?_⟩); rotate_left; cbv) | (simp only [hA.natLit, hA.natOf, hA.natCast]; cbv)
      all_goals try simp only [hA.add, hA.sub, hA.mul, hA.neg, hA.div, hA.mod, hA.mn, hA.mx, hA.eq, hA.lt, hA.le, hA.nat, hA.R, hA.lep, hA.ltp, hA.seq, inR, n_cast, Int.ofNat_eq_natCast, Option.getD_some, Option.getD_none] at *
      all_goals first
        | (rw [hr2])
        | omega
        | (clear hK h2 hll he hf; grind; done)
        | (trace_state; fail))
set_option maxRecDepth 100000 in
theorem ok127 (n1 : List UInt8) (c1 : Int) (rs : List (List (Bool × Int))) (x : List (List E)) (hx : x = rs.map rsr) (left : Int) (h : 0 ≤ left ∧ left ≤ 1048576) : Plain Try.prog 127 [.agg [.str n1, .int c1, .e (.sl x)], .int left] (.int (cut left (cT (n1, c1, rs)))) := okOf mixed p127 fun A P hA hP => (by
  obtain ⟨a, ha⟩ : ∃ a : Int, a = left - n1.length := ⟨_, rfl⟩
  obtain ⟨r, hr⟩ : ∃ r, r = cut left (cT (n1, c1, rs)) := ⟨_, rfl⟩
  rw [← hr]
  have hs := cSS_nonneg rs
  have hr2 : r = if a - cSS rs < 0 then -1 else a - cSS rs := by rw [hr, cut, cT, show left - ((n1.length : Int) + cSS rs) = a - cSS rs by omega]
  clear hr
  by_cases ha0 : a < 0
  · have hrr : r = -1 := by rw [hr2]; split <;> omega
    have hr2 : True := trivial
    cbv
    repeat' first | with_reducible rfl | with_reducible refine And.intro ?_ ?_ | ((with_reducible intro hcc); first | (cases hcc; done) | skip) | ((with_reducible show goC _ _ _ _ _ _ _ _); cbv) | ((with_reducible show goOps _ _ _ _ _); cbv) | ((with_reducible show okWr _ _ = _); rfl) | (exfalso; simp only [hA.lt, hA.sub, decide_eq_true_eq, decide_eq_false_iff_not, n_cast] at *; omega) | ((with_reducible refine hA.fin_pl _ _ _ ?_); cbv) | ((with_reducible refine hA.slen _ _ _ _ _ fun z hz hb => ?_); cbv) | (simp only [hA.natLit, hA.natOf, hA.natCast]; cbv)
    all_goals try simp only [hA.add, hA.sub, hA.mul, hA.neg, hA.div, hA.mod, hA.mn, hA.mx, hA.eq, hA.lt, hA.le, hA.nat, hA.R, hA.lep, hA.ltp, hA.seq, inR, n_cast, Int.ofNat_eq_natCast, Option.getD_some, Option.getD_none] at *
    all_goals first | omega | (rw [hrr]) | (clear hr2; simp at *; omega) | (trace_state; fail)
  · have h46 : ∀ b, b = a → Plain Try.prog 16 [.e (.sl x), .int b] (.int (cut a (cSS rs))) := fun b hb => hb ▸ ok16 rs _ hx a (by omega)
    obtain ⟨u, hu⟩ : ∃ u, u = cut a (cSS rs) := ⟨_, rfl⟩
    rw [← hu] at h46
    rw [cut] at hu
    rw [← hu] at hr2
    cbv
    repeat' first | with_reducible rfl | with_reducible refine And.intro ?_ ?_ | ((with_reducible intro hcc); first | (cases hcc; done) | skip) | ((with_reducible show goC _ _ _ _ _ _ _ _); cbv) | ((with_reducible show goOps _ _ _ _ _); cbv) | ((with_reducible show okWr _ _ = _); rfl) | ((with_reducible refine callK_eq hA hP ?_ ?_ ?_ (Wks.refl _) (fun _ _ => h46 _ ?_)); exact rfl; exact rfl; cbv) | ((with_reducible refine hA.fin_pl _ _ _ ?_); cbv) | ((with_reducible refine hA.slen _ _ _ _ _ fun z hz hb => ?_); cbv) | (simp only [hA.natLit, hA.natOf, hA.natCast]; cbv)
    all_goals try simp only [hA.add, hA.sub, hA.mul, hA.neg, hA.div, hA.mod, hA.mn, hA.mx, hA.eq, hA.lt, hA.le, hA.nat, hA.R, hA.lep, hA.ltp, hA.seq, inR, n_cast, Int.ofNat_eq_natCast, Option.getD_some, Option.getD_none] at *
    all_goals first | omega | (rw [hr2]; done) | (have : u = -1 := (by simp only [decide_eq_true_eq, decide_eq_false_iff_not] at *; split at hu <;> omega); rw [hr2, this]; done) | (clear h46; simp at *; omega) | (trace_state; fail))
set_option maxRecDepth 100000 in
theorem ok72 (l : List (Tb)) (es : List (List E)) (he : es = l.map tbr) (left : Int) (h : 0 ≤ left ∧ left ≤ 1048576) : Plain Try.prog 72 [.e (.sl es), .int left] (.int (cut left (l.length + sumC cT l))) := okOf mixed p72 fun A P hA hP => (by
  have hl1 : es.length = l.length := by rw [he]; simp
  have hsn : ∀ l : List (Tb), 0 ≤ sumC cT l := sumC_nonneg cT_nonneg
  obtain ⟨r, hr⟩ : ∃ r, r = cut left (l.length + sumC cT l) := ⟨_, rfl⟩
  rw [← hr]
  have hr2 : r = cut (left - es.length) (sumC cT l) := by rw [hr, hl1, cut, cut]; congr 1 <;> (try apply propext) <;> omega
  clear hr
  cbv
  repeat' first | with_reducible rfl | with_reducible refine And.intro ?_ ?_ | ((with_reducible intro hcc); first | (cases hcc; done) | skip) | ((with_reducible show goC _ _ _ _ _ _ _ _); cbv) | ((with_reducible show goOps _ _ _ _ _); cbv) | ((with_reducible show okWr _ _ = _); rfl) | ((with_reducible refine hA.fin_pl _ _ _ ?_); cbv) | ((with_reducible refine hA.len _ _ _ _ _ fun z hz hb => ?_); cbv) | ((with_reducible refine hA.off _ _ _ _ fun b hb => ?_); cbv) | ((with_reducible refine hA.sapp _ _ _ ⟨?_, fun sl hsl => ?_⟩); rotate_left; cbv) | (simp only [hA.natLit, hA.natOf, hA.natCast]; cbv)
  all_goals try simp only [hA.add, hA.sub, hA.mul, hA.neg, hA.div, hA.mod, hA.mn, hA.mx, hA.eq, hA.lt, hA.le, hA.nat, hA.R, hA.lep, hA.ltp, hA.seq, inR, n_cast, Int.ofNat_eq_natCast, Option.getD_some, Option.getD_none] at *
  all_goals try (first | omega | (have := hb trivial trivial trivial; omega) | (have : r = -1 := (by simp only [decide_eq_true_eq] at *; have := hsn l; rw [hr2]; unfold cut; split <;> omega); rw [this]; done))
  · refine hA.loopI (fun n s => ∃ (i lf : Int), 0 ≤ i ∧ n + i = es.length ∧ 0 ≤ lf ∧ lf ≤ 1048576 ∧ r = cut lf (sumC cT (l.drop i.toNat)) ∧
        s = ⟨[(5, .int i), (0, .e (.sl es)), (1, .int lf), (4, .int 0)], []⟩) es.length _
      (Weak.keep (env' := [(5, .int 0), (0, .e (.sl es)), (1, .int (left - z)), (4, .int 0)]) ⟨rfl, rfl, rfl, rfl, trivial⟩) ⟨0, left - z, by omega, by omega, by simp only [decide_eq_false_iff_not] at *; omega, by omega, (by rw [hr2, hz]; rfl), rfl⟩ ?_
    rintro n s K ⟨i, lf, h0, h1, h2, h3, h4, rfl⟩ hK
    clear hr2
    by_cases hin : (0 : Int) ≤ i ∧ i < es.length
    · obtain ⟨⟨n1, c1, rs1⟩, e1, q1⟩ := row_at he hin
      obtain ⟨x1, hx1⟩ : ∃ x, x = rs1.map rsr := ⟨_, rfl⟩
      have e1 : es.getD i.toNat [] = [E.str n1, E.int c1, E.sl x1] := e1.trans (by rw [hx1])
      rw [sumC_drop q1] at h4
      obtain ⟨S, hS⟩ : ∃ S, S = sumC cT (l.drop (i.toNat + 1)) := ⟨_, rfl⟩
      have hS0 : 0 ≤ S := hS ▸ hsn _
      obtain ⟨c, hcost⟩ : ∃ c, c = cT (n1, c1, rs1) := ⟨_, rfl⟩
      have hc0 : 0 ≤ c := hcost ▸ cT_nonneg _
      have hc := ok127 n1 c1 rs1 x1 hx1 lf ⟨h2, h3⟩
      rw [← hS, ← hcost] at h4
      rw [← hcost] at hc
      obtain ⟨u, hu⟩ : ∃ u, u = cut lf c := ⟨_, rfl⟩
      rw [← hu] at hc
      have e8 : (i + 1).toNat = i.toNat + 1 := by omega
      have g1 : u < 0 → r = -1 := fun a => by rw [h4]; unfold cut at hu ⊢; split at hu <;> split <;> omega
      have g2 : 0 ≤ u → r = cut u S ∧ u ≤ lf := fun a => by
        have hu2 : u = lf - c := by rw [hu] at a ⊢; unfold cut at a ⊢; split at a <;> split <;> omega
        refine ⟨?_, by omega⟩
        rw [h4, hu2]
        unfold cut
        rw [show lf - (c + S) = lf - c - S by omega]
      clear h4 hu hcost
      cbv
      repeat' first | with_reducible rfl | with_reducible refine And.intro ?_ ?_ | ((with_reducible intro hcc); first | (cases hcc; done) | skip) | ((with_reducible show goC _ _ _ _ _ _ _ _); cbv) | ((with_reducible show goOps _ _ _ _ _); cbv) | ((with_reducible show okWr _ _ = _); rfl) | ((with_reducible refine callK_eq hA hP ?_ ?_ ?_ (Wks.refl _) (fun _ _ => hc)); exact rfl; exact rfl; cbv) | ((with_reducible refine hA.row es _ _ ⟨hin, fun row hrow => ?_⟩); rw [e1] at hrow; subst hrow; cbv) | ((with_reducible refine hA.fin_pl _ _ _ ?_); cbv) | ((with_reducible refine hA.len _ _ _ _ _ fun z hz hb => ?_); cbv) | ((with_reducible refine hA.off _ _ _ _ fun b hb => ?_); cbv) | ((with_reducible refine hA.sapp _ _ _ ⟨?_, fun sl hsl => ?_⟩); rotate_left; cbv) | (simp only [hA.natLit, hA.natOf, hA.natCast]; cbv)
      all_goals try simp only [hA.add, hA.sub, hA.mul, hA.neg, hA.div, hA.mod, hA.mn, hA.mx, hA.eq, hA.lt, hA.le, hA.nat, hA.R, hA.lep, hA.ltp, hA.seq, inR, n_cast, Int.ofNat_eq_natCast, Option.getD_some, Option.getD_none] at *
      all_goals first
        | omega
        | (clear hK g1 g2 he; simp at *; omega)
        | (rw [g1 (by clear hK g2; simp at *; omega)]; done)
        | (have hu0 : 0 ≤ u := (by clear hK; simp at *; omega)
           exact hK _ (n - 1) _ (by omega) (Weak.keep (env' := [(5, .int (i + 1)), (0, .e (.sl es)), (1, .int u), (4, .int 0)]) ⟨rfl, rfl, rfl, rfl, trivial⟩) ⟨i + 1, u, by omega, by omega, hu0, by have := (g2 hu0).2; omega, by rw [e8, ← hS]; exact (g2 hu0).1, rfl⟩)
        | (clear hK g1 g2 he; simp at *; omega)
        | (trace_state; fail)
    · have hd : l.drop i.toNat = [] := by rw [List.drop_eq_nil_iff]; omega
      rw [hd] at h4
      have h5 : r = lf := by rw [h4, sumC, cut, if_neg (by omega)]; omega
      clear h4 hK
      cbv
      repeat' first | with_reducible rfl | with_reducible refine And.intro ?_ ?_ | ((with_reducible intro hcc); first | (cases hcc; done) | skip) | ((with_reducible show goC _ _ _ _ _ _ _ _); cbv) | ((with_reducible show goOps _ _ _ _ _); cbv) | ((with_reducible show okWr _ _ = _); rfl) | (exfalso; simp only [hA.lt, hA.sub, decide_eq_true_eq, decide_eq_false_iff_not, n_cast] at *; omega) | ((with_reducible refine hA.fin_pl _ _ _ ?_); cbv) | ((with_reducible refine hA.len _ _ _ _ _ fun z hz hb => ?_); cbv) | ((with_reducible refine hA.off _ _ _ _ fun b hb => ?_); cbv) | ((with_reducible refine hA.sapp _ _ _ ⟨?_, fun sl hsl => ?_⟩); rotate_left; cbv) | (simp only [hA.natLit, hA.natOf, hA.natCast]; cbv)
      all_goals try simp only [hA.add, hA.sub, hA.mul, hA.neg, hA.div, hA.mod, hA.mn, hA.mx, hA.eq, hA.lt, hA.le, hA.nat, hA.R, hA.lep, hA.ltp, hA.seq, inR, n_cast, Int.ofNat_eq_natCast, Option.getD_some, Option.getD_none] at *
      all_goals first
        | (rw [h5])
        | omega
        | (clear he; simp at *; omega)
        | (trace_state; fail))
theorem ok28 (ts : List Tb) (x : List (List E)) (hx : x = ts.map tbr) (left : Int) (h : 0 ≤ left ∧ left ≤ 1048576) : Plain Try.prog 28 [.agg [.e (.sl x)], .int left] (.int (cut left (cTS ts))) := okOf mixed p28 fun A P hA hP => (by
  have h65 : Plain Try.prog 72 [.e (.sl x), .int left] (.int (cut left (cTS ts))) := ok72 ts _ hx left h
  obtain ⟨u, hu⟩ : ∃ u, u = cut left (cTS ts) := ⟨_, rfl⟩
  rw [← hu] at h65 ⊢
  have hu2 : u < 0 → u = -1 := fun a => by rw [hu, cut] at a ⊢; split at a <;> split <;> omega
  clear hu
  cbv
  repeat' first | with_reducible rfl | with_reducible refine And.intro ?_ ?_ | ((with_reducible intro hcc); first | (cases hcc; done) | skip) | ((with_reducible show goC _ _ _ _ _ _ _ _); cbv) | ((with_reducible show goOps _ _ _ _ _); cbv) | ((with_reducible show okWr _ _ = _); rfl) | ((with_reducible refine callK_eq hA hP ?_ ?_ ?_ (Wks.refl _) (fun _ _ => h65)); exact rfl; exact rfl; cbv) | ((with_reducible refine hA.fin_pl _ _ _ ?_); cbv) | (simp only [hA.natLit, hA.natOf, hA.natCast]; cbv)
  all_goals try simp only [hA.add, hA.sub, hA.mul, hA.neg, hA.div, hA.mod, hA.mn, hA.mx, hA.eq, hA.lt, hA.le, hA.nat, hA.R, hA.lep, hA.ltp, hA.seq, inR, n_cast, Int.ofNat_eq_natCast, Option.getD_some, Option.getD_none] at *
  all_goals first | rfl | omega | (rw [hu2 (by simp at *; omega)]) | (trace_state; fail))
set_option maxRecDepth 100000 in
theorem ok134 (n1 : List UInt8) (c1 : Int) (rs : List (List (Bool × Int))) (x : List (List E)) (hx : x = rs.map rsr) (h1 : rs.length ≤ 1048576) (h2 : ∀ r ∈ rs, r.length ≤ 1048576) : Plain Try.prog 134 [.agg [.str n1, .int c1, .e (.sl x)]] (.agg [.str n1, .int c1, .e (.sl x)]) := okOf mixed p134 fun A P hA hP => (by
  have h48 := ok18 rs x hx (by rw [hx, List.length_map]; exact h1) h2
  cbv
  repeat' first | with_reducible rfl | with_reducible refine And.intro ?_ ?_ | ((with_reducible intro hcc); first | (cases hcc; done) | skip) | ((with_reducible show goC _ _ _ _ _ _ _ _); cbv) | ((with_reducible show goOps _ _ _ _ _); cbv) | ((with_reducible show okWr _ _ = _); rfl) | ((with_reducible refine callK_eq hA hP ?_ ?_ ?_ (Wks.refl _) (fun _ _ => h48)); exact rfl; exact rfl; cbv) | ((with_reducible refine hA.fin_pl _ _ _ ?_); cbv) | ((with_reducible refine hA.st _ _ _ _ _ ⟨?_, fun ds hds => ?_⟩); rotate_left; cbv) | (simp only [hA.natLit, hA.natOf, hA.natCast]; cbv)
  all_goals try simp only [hA.add, hA.sub, hA.mul, hA.neg, hA.div, hA.mod, hA.mn, hA.mx, hA.eq, hA.lt, hA.le, hA.nat, hA.R, hA.lep, hA.ltp, hA.seq, inR, n_cast, Int.ofNat_eq_natCast, Option.getD_some, Option.getD_none] at *
  )
set_option maxRecDepth 100000 in
set_option maxHeartbeats 1000000 in
theorem ok76 (l : List (Tb)) (es : List (List E)) (he : es = l.map tbr) (hlen : es.length ≤ 1048576) (hb2 : ∀ t ∈ l, t.2.2.length ≤ 1048576 ∧ ∀ r ∈ t.2.2, r.length ≤ 1048576) : Plain Try.prog 76 [.e (.sl es)] (.e (.sl es)) := okOf mixed p76 fun A P hA hP => (by
  have hl1 : es.length = l.length := by rw [he]; simp
  have hes : ∀ e ∈ es, e.length = 3 := by
    rw [he]
    intro e h
    obtain ⟨p, _, rfl⟩ := List.mem_map.1 h
    rfl
  cbv
  repeat' first | with_reducible rfl | with_reducible refine And.intro ?_ ?_ | ((with_reducible intro hcc); first | (cases hcc; done) | skip) | ((with_reducible show goC _ _ _ _ _ _ _ _); cbv) | ((with_reducible show goOps _ _ _ _ _); cbv) | ((with_reducible show okWr _ _ = _); rfl) | ((with_reducible refine hA.fin_pl _ _ _ ?_); cbv) | ((with_reducible refine hA.len _ _ _ _ _ fun z hz hb => ?_); cbv) | ((with_reducible refine hA.off _ _ _ _ fun b hb => ?_); cbv) | ((with_reducible refine hA.rep _ _ _ fun ds m hds hm => ?_); cbv) | ((with_reducible refine hA.st _ _ _ _ _ ⟨?_, fun ds hds => ?_⟩); rotate_left; cbv) | ((with_reducible refine hA.alt _ _ (Or.inl ?_)); cbv) | ((with_reducible refine hA.sapp _ _ _ ⟨?_, fun sl hsl => ?_⟩); rotate_left; cbv) | (simp only [hA.natLit, hA.natOf, hA.natCast]; cbv)
  all_goals try simp only [hA.add, hA.sub, hA.mul, hA.neg, hA.div, hA.mod, hA.mn, hA.mx, hA.eq, hA.lt, hA.le, hA.nat, hA.R, hA.lep, hA.ltp, hA.seq, inR, n_cast, Int.ofNat_eq_natCast, Option.getD_some, Option.getD_none] at *
  · omega
  · omega
  · refine hA.loopI (fun n s => ∃ (i : Int) (xs : List (List E)), 0 ≤ i ∧ n + i = es.length ∧ xs.length = es.length ∧ (∀ e ∈ xs, e.length = 3) ∧ (∀ j : Nat, j < i → xs[j]? = es[j]?) ∧
        s = ⟨[(4, .int i), (3, .bs 0 0 m 3), (2, .zs), (0, .e (.sl es))], [.box (xs.flatten.map .e)]⟩) es.length _
      (Weak.keep (env' := [(4, .int 0), (3, .bs 0 0 m 3), (2, .zs), (0, .e (.sl es))]) ⟨rfl, rfl, rfl, rfl, trivial⟩)
      ⟨0, List.replicate m [E.str [], E.int 0, E.sl []], by omega, by omega, by simp; omega, by simp, fun j hj => by omega, by rw [← buf_zero, hm]; rw [hds]; rfl⟩ ?_
    rintro n s K ⟨i, xs, h0, h1, h2, h3, h4, rfl⟩ hK
    obtain ⟨ys, hys⟩ : ∃ ys, ys = xs.flatten.map D.e := ⟨_, rfl⟩
    have hyl : ys.length = xs.length * 3 := by rw [hys, List.length_map, flatten_len h3]
    rw [← hys]
    by_cases hin : (0 : Int) ≤ i ∧ i < es.length
    · obtain ⟨⟨n1, c1, rs1⟩, e1, q1⟩ := row_at he hin
      obtain ⟨x1, hx1⟩ : ∃ x, x = rs1.map rsr := ⟨_, rfl⟩
      have e1 : es.getD i.toNat [] = [E.str n1, E.int c1, E.sl x1] := e1.trans (by rw [hx1])
      have hc := ok134 n1 c1 rs1 x1 hx1 (hb2 _ (List.mem_of_getElem? q1)).1 (hb2 _ (List.mem_of_getElem? q1)).2
      have hrow0 : es[i.toNat]? = some (es.getD i.toNat []) := by
        have : i.toNat < es.length := by omega
        simp [List.getD, this]
      have hrl : (es.getD i.toNat []).length = 3 := hes _ (List.mem_of_getElem? hrow0)
      cbv
      repeat' first | with_reducible rfl | with_reducible refine And.intro ?_ ?_ | ((with_reducible intro hcc); first | (cases hcc; done) | skip) | ((with_reducible show goC _ _ _ _ _ _ _ _); cbv) | ((with_reducible show goOps _ _ _ _ _); cbv) | ((with_reducible show okWr _ _ = _); rfl) | ((with_reducible refine callK_eq hA hP ?_ ?_ ?_ (Wks.refl _) (fun _ _ => hc)); exact rfl; exact rfl; cbv) | ((with_reducible refine hA.row es _ _ ⟨hin, fun row hrow => ?_⟩); rw [e1] at hrow; subst hrow; cbv) | ((with_reducible refine hA.fin_pl _ _ _ ?_); cbv) | ((with_reducible refine hA.len _ _ _ _ _ fun z hz hb => ?_); cbv) | ((with_reducible refine hA.off _ _ _ _ fun b hb => ?_); cbv) | ((with_reducible refine hA.rep _ _ _ fun ds m hds hm => ?_); cbv) | ((with_reducible refine hA.st _ _ _ _ _ ⟨?_, fun ds hds => ?_⟩); rotate_left; cbv) | ((with_reducible refine hA.alt _ _ (Or.inl ?_)); cbv) | ((with_reducible refine hA.sapp _ _ _ ⟨?_, fun sl hsl => ?_⟩); rotate_left; cbv) | (simp only [hA.natLit, hA.natOf, hA.natCast]; cbv)
      all_goals try simp only [hA.add, hA.sub, hA.mul, hA.neg, hA.div, hA.mod, hA.mn, hA.mx, hA.eq, hA.lt, hA.le, hA.nat, hA.R, hA.lep, hA.ltp, hA.seq, inR, n_cast, Int.ofNat_eq_natCast, Option.getD_some, Option.getD_none] at *
      all_goals first
        | (show _ < (m : Int); omega)
        | omega
        | (clear hK h4 he; grind; done)
        | (have hb' : b = i.toNat * 3 := by omega
           refine hK _ (n - 1) _ (by omega) (Weak.keep (env' := [(4, .int (i + 1)), (3, .bs 0 0 m 3), (2, .zs), (0, .e (.sl es))]) ⟨rfl, rfl, rfl, rfl, trivial⟩)
             ⟨i + 1, xs.set i.toNat (es.getD i.toNat []), by omega, by omega, by simp [h2], fun e h => ?_, fun j hj => ?_, ?_⟩
           · rcases List.mem_or_eq_of_mem_set h with h | rfl
             · exact h3 e h
             · exact hrl
           · by_cases hji : (j : Int) < i
             · rw [List.getElem?_set_ne (show i.toNat ≠ j by omega)]; exact h4 j hji
             · have : j = i.toNat := by omega
               subst this
               rw [List.getElem?_set_self (show i.toNat < xs.length by omega), hrow0]
           · congr 2
             rw [hds, hys, hb']
             congr 1
             have q := buf_set (k := 3) (by omega) h3 (i := i.toNat) (show i.toNat < xs.length by omega) hrl
             rw [e1] at q ⊢
             exact q)
    · have hxe : xs = es := by
        refine List.ext_getElem? fun j => ?_
        by_cases hj : (j : Int) < i
        · exact h4 j hj
        · rw [List.getElem?_eq_none (by omega), List.getElem?_eq_none (by omega)]
      cbv
      repeat' first | with_reducible rfl | with_reducible refine And.intro ?_ ?_ | ((with_reducible intro hcc); first | (cases hcc; done) | skip) | ((with_reducible show goC _ _ _ _ _ _ _ _); cbv) | ((with_reducible show goOps _ _ _ _ _); cbv) | ((with_reducible show okWr _ _ = _); rfl) | (exfalso; simp only [hA.lt, hA.sub, decide_eq_true_eq, decide_eq_false_iff_not, n_cast] at *; omega) | ((with_reducible refine hA.fin_bs (es := es) ?_ ?_ hes)) | ((with_reducible refine hA.fin_pl _ _ _ ?_); cbv) | ((with_reducible refine hA.len _ _ _ _ _ fun z hz hb => ?_); cbv) | ((with_reducible refine hA.off _ _ _ _ fun b hb => ?_); cbv) | ((with_reducible refine hA.rep _ _ _ fun ds m hds hm => ?_); cbv) | ((with_reducible refine hA.st _ _ _ _ _ ⟨?_, fun ds hds => ?_⟩); rotate_left; cbv) | ((with_reducible refine hA.alt _ _ (Or.inl ?_)); cbv) | ((with_reducible refine hA.sapp _ _ _ ⟨?_, fun sl hsl => ?_⟩); rotate_left; cbv) | (simp only [hA.natLit, hA.natOf, hA.natCast]; cbv)
      all_goals try simp only [hA.add, hA.sub, hA.mul, hA.neg, hA.div, hA.mod, hA.mn, hA.mx, hA.eq, hA.lt, hA.le, hA.nat, hA.R, hA.lep, hA.ltp, hA.seq, inR, n_cast, Int.ofNat_eq_natCast, Option.getD_some, Option.getD_none] at *
      all_goals first
        | (rw [hys, hxe]; rfl)
        | omega
        | (clear hK h4 he; grind; done)
        | (trace_state; fail))
theorem ok31 (ts : List Tb) (x : List (List E)) (hx : x = ts.map tbr) (h1 : ts.length ≤ 1048576) (h2 : ∀ t ∈ ts, t.2.2.length ≤ 1048576 ∧ ∀ r ∈ t.2.2, r.length ≤ 1048576) : Plain Try.prog 31 [.agg [.e (.sl x)]] (.agg [.e (.sl x)]) := okOf mixed p31 fun A P hA hP => (by
  have h68 := ok76 ts x hx (by rw [hx, List.length_map]; exact h1) h2
  cbv
  repeat' first | with_reducible rfl | with_reducible refine And.intro ?_ ?_ | ((with_reducible intro hcc); first | (cases hcc; done) | skip) | ((with_reducible show goC _ _ _ _ _ _ _ _); cbv) | ((with_reducible show goOps _ _ _ _ _); cbv) | ((with_reducible show okWr _ _ = _); rfl) | ((with_reducible refine callK_eq hA hP ?_ ?_ ?_ (Wks.refl _) (fun _ _ => h68)); exact rfl; exact rfl; cbv) | ((with_reducible refine hA.fin_pl _ _ _ ?_); cbv) | ((with_reducible refine hA.st _ _ _ _ _ ⟨?_, fun ds hds => ?_⟩); rotate_left; cbv) | (simp only [hA.natLit, hA.natOf, hA.natCast]; cbv)
  all_goals try simp only [hA.add, hA.sub, hA.mul, hA.neg, hA.div, hA.mod, hA.mn, hA.mx, hA.eq, hA.lt, hA.le, hA.nat, hA.R, hA.lep, hA.ltp, hA.seq, inR, n_cast, Int.ofNat_eq_natCast, Option.getD_some, Option.getD_none] at *
  )
set_option maxRecDepth 100000 in
theorem ok139 (n1 : List UInt8) (c1 : Int) (rs : List (List (Bool × Int))) (x : List (List E)) (hx : x = rs.map rsr) (n2 : List UInt8) (c2 : Int) (rs' : List (List (Bool × Int))) (x' : List (List E)) (hx' : x' = rs'.map rsr) :
    Plain Try.prog 139 [.agg [.str n1, .int c1, .e (.sl x)], .agg [.str n2, .int c2, .e (.sl x')]] (.bool (decide ((n1, c1, rs) = (n2, c2, rs')))) := okOf mixed p139 fun A P hA hP => (by
  have h49 := ok19 rs rs' x x' hx hx'
  obtain ⟨c, hc⟩ : ∃ c, c = decide (rs = rs') := ⟨_, rfl⟩
  rw [← hc] at h49
  obtain ⟨r, hr⟩ : ∃ r, r = decide ((n1, c1, rs) = (n2, c2, rs')) := ⟨_, rfl⟩
  rw [← hr]
  have hr2 : r = (decide (n1 = n2) && decide (c1 = c2) && c) := by rw [hr, hc]; by_cases a : n1 = n2 <;> by_cases b : c1 = c2 <;> simp [a, b]
  clear hr hc
  cbv
  repeat' first | with_reducible rfl | with_reducible refine And.intro ?_ ?_ | ((with_reducible intro hcc); first | (cases hcc; done) | skip) | ((with_reducible show goC _ _ _ _ _ _ _ _); cbv) | ((with_reducible show goOps _ _ _ _ _); cbv) | ((with_reducible show okWr _ _ = _); rfl) | ((with_reducible refine callK_eq hA hP ?_ ?_ ?_ (Wks.refl _) (fun _ _ => h49)); exact rfl; exact rfl; cbv) | ((with_reducible refine hA.fin_pl _ _ _ ?_); cbv) | (simp only [hA.natLit, hA.natOf, hA.natCast]; cbv)
  all_goals try simp only [hA.add, hA.sub, hA.mul, hA.neg, hA.div, hA.mod, hA.mn, hA.mx, hA.eq, hA.lt, hA.le, hA.nat, hA.R, hA.lep, hA.ltp, hA.seq, inR, n_cast, Int.ofNat_eq_natCast, Option.getD_some, Option.getD_none] at *
  all_goals first | rfl | (clear h49; grind; done) | (clear h49; simp at *; grind; done) | (trace_state; fail))
set_option maxRecDepth 100000 in
theorem ok79 (l l' : List (Tb)) (es fs : List (List E)) (he : es = l.map tbr) (hf : fs = l'.map tbr) : Plain Try.prog 79 [.e (.sl es), .e (.sl fs)] (.bool (decide (l = l'))) := okOf mixed p79 fun A P hA hP => (by
  obtain ⟨r, hr⟩ : ∃ r : Bool, r = decide (l = l') := ⟨_, rfl⟩
  rw [← hr]
  have hl1 : es.length = l.length := by rw [he]; simp
  have hl2 : fs.length = l'.length := by rw [hf]; simp
  cbv
  repeat' first | with_reducible rfl | with_reducible refine And.intro ?_ ?_ | ((with_reducible intro hcc); first | (cases hcc; done) | skip) | ((with_reducible show goC _ _ _ _ _ _ _ _); cbv) | ((with_reducible show goOps _ _ _ _ _); cbv) | ((with_reducible show okWr _ _ = _); rfl) | ((with_reducible refine hA.fin_pl _ _ _ ?_); cbv) | ((with_reducible refine hA.len _ _ _ _ _ fun z hz hb => ?_); cbv) | ((with_reducible refine hA.off _ _ _ _ fun b hb => ?_); cbv) | ((with_reducible refine hA.sapp _ _ _ ⟨?_, fun sl hsl => ?_⟩); rotate_left; cbv) | (simp only [hA.natLit, hA.natOf, hA.natCast]; cbv)
  all_goals try simp only [hA.add, hA.sub, hA.mul, hA.neg, hA.div, hA.mod, hA.mn, hA.mx, hA.eq, hA.lt, hA.le, hA.nat, hA.R, hA.lep, hA.ltp, hA.seq, inR, n_cast, Int.ofNat_eq_natCast, Option.getD_some, Option.getD_none] at *
  · have : l ≠ l' := fun e => by subst e; clear hr; grind
    rw [hr]; simp [this]
  · have hzz : es.length = fs.length := by clear hr; grind
    refine hA.loopI (fun n s => ∃ i : Int, 0 ≤ i ∧ n + i = l.length ∧ (∀ j : Nat, j < i → l[j]? = l'[j]?) ∧ s = ⟨[(5, .int i), (4, .bool false), (0, .e (.sl es)), (1, .e (.sl fs))], []⟩) l.length _ (Weak.keep (env' := [(5, .int 0), (4, .bool false), (0, .e (.sl es)), (1, .e (.sl fs))]) ⟨rfl, rfl, rfl, rfl, trivial⟩) ⟨0, by omega, by omega, fun j hj => by omega, rfl⟩ ?_
    rintro n s K ⟨i, h0, h1, h2, rfl⟩ hK
    by_cases hin : (0 : Int) ≤ i ∧ i < es.length
    · have hin2 : (0 : Int) ≤ i ∧ i < fs.length := by omega
      obtain ⟨⟨n1, c1, rs1⟩, e1, q1⟩ := row_at he hin
      obtain ⟨⟨n2, c2, rs2⟩, e2, q2⟩ := row_at hf hin2
      obtain ⟨x1, hx1⟩ : ∃ x, x = rs1.map rsr := ⟨_, rfl⟩
      have e1 : es.getD i.toNat [] = [E.str n1, E.int c1, E.sl x1] := e1.trans (by rw [hx1])
      obtain ⟨x2, hx2⟩ : ∃ x, x = rs2.map rsr := ⟨_, rfl⟩
      have e2 : fs.getD i.toNat [] = [E.str n2, E.int c2, E.sl x2] := e2.trans (by rw [hx2])
      have hc := ok139 n1 c1 rs1 x1 hx1 n2 c2 rs2 x2 hx2
      obtain ⟨c, hcc⟩ : ∃ c : Bool, c = decide (((n1, c1, rs1) : Tb) = (n2, c2, rs2)) := ⟨_, rfl⟩
      rw [← hcc] at hc
      have c1 : c = false → r = false := fun e => by
        rw [hr, decide_eq_false_iff_not]
        intro e'
        subst e'
        rw [q1] at q2
        cases q2
        rw [e] at hcc
        simp at hcc
      have c2 : c = true → l[i.toNat]? = l'[i.toNat]? := fun e => by
        rw [e] at hcc
        rw [q1, q2, of_decide_eq_true hcc.symm]
      clear hcc hr
      cbv
      repeat' first | with_reducible rfl | with_reducible refine And.intro ?_ ?_ | ((with_reducible intro hcc); first | (cases hcc; done) | skip) | ((with_reducible show goC _ _ _ _ _ _ _ _); cbv) | ((with_reducible show goOps _ _ _ _ _); cbv) | ((with_reducible show okWr _ _ = _); rfl) | ((with_reducible refine callK_eq hA hP ?_ ?_ ?_ (Wks.refl _) (fun _ _ => hc)); exact rfl; exact rfl; cbv) | ((with_reducible refine hA.row es _ _ ⟨hin, fun row hrow => ?_⟩); rw [e1] at hrow; subst hrow; cbv) | ((with_reducible refine hA.row fs _ _ ⟨hin2, fun row hrow => ?_⟩); rw [e2] at hrow; subst hrow; cbv) | ((with_reducible refine hA.fin_pl _ _ _ ?_); cbv) | ((with_reducible refine hA.len _ _ _ _ _ fun z hz hb => ?_); cbv) | ((with_reducible refine hA.off _ _ _ _ fun b hb => ?_); cbv) | ((with_reducible refine hA.sapp _ _ _ ⟨?_, fun sl hsl => ?_⟩); rotate_left; cbv) | (simp only [hA.natLit, hA.natOf, hA.natCast]; cbv)
      all_goals try simp only [hA.add, hA.sub, hA.mul, hA.neg, hA.div, hA.mod, hA.mn, hA.mx, hA.eq, hA.lt, hA.le, hA.nat, hA.R, hA.lep, hA.ltp, hA.seq, inR, n_cast, Int.ofNat_eq_natCast, Option.getD_some, Option.getD_none] at *
      all_goals first
        | omega
        | (refine hK _ (n - 1) _ (by omega) (Weak.gc (env' := [(5, .int (i + 1)), (4, .bool false), (0, .e (.sl es)), (1, .e (.sl fs))]) ⟨rfl, rfl, rfl, rfl, trivial⟩ rfl) ⟨i + 1, by omega, by omega, fun j hj => ?_, rfl⟩
           by_cases hji : (j : Int) < i
           · exact h2 j hji
           · have : j = i.toNat := by omega
             rw [this]
             exact c2 (by clear hK h2; grind))
        | (clear hK h2 he hf e1 e2; grind; done)
        | (trace_state; fail)
    · have hll : l = l' := by
        refine List.ext_getElem? fun j => ?_
        by_cases hj : (j : Int) < i
        · exact h2 j hj
        · rw [List.getElem?_eq_none (by omega), List.getElem?_eq_none (by omega)]
      have hr2 : r = true := by rw [hr, hll]; simp
      clear hr
      cbv
      repeat' first | with_reducible rfl | with_reducible refine And.intro ?_ ?_ | ((with_reducible intro hcc); first | (cases hcc; done) | skip) | ((with_reducible show goC _ _ _ _ _ _ _ _); cbv) | ((with_reducible show goOps _ _ _ _ _); cbv) | ((with_reducible show okWr _ _ = _); rfl) | (exfalso; simp only [hA.lt, hA.sub, decide_eq_true_eq, decide_eq_false_iff_not, n_cast] at *; omega) | ((with_reducible refine hA.fin_pl _ _ _ ?_); cbv) | ((with_reducible refine hA.len _ _ _ _ _ fun z hz hb => ?_); cbv) | ((with_reducible refine hA.off _ _ _ _ fun b hb => ?_); cbv) | ((with_reducible refine hA.sapp _ _ _ ⟨?_, fun sl hsl => ?_⟩); rotate_left; cbv) | (simp only [hA.natLit, hA.natOf, hA.natCast]; cbv)
      all_goals try simp only [hA.add, hA.sub, hA.mul, hA.neg, hA.div, hA.mod, hA.mn, hA.mx, hA.eq, hA.lt, hA.le, hA.nat, hA.R, hA.lep, hA.ltp, hA.seq, inR, n_cast, Int.ofNat_eq_natCast, Option.getD_some, Option.getD_none] at *
      all_goals first
        | (rw [hr2])
        | omega
        | (clear hK h2 hll he hf; grind; done)
        | (trace_state; fail))
theorem ok34 (ts ts' : List Tb) (x x' : List (List E)) (hx : x = ts.map tbr) (hx' : x' = ts'.map tbr) : Plain Try.prog 34 [.agg [.e (.sl x)], .agg [.e (.sl x')]] (.bool (decide (ts = ts'))) := okOf mixed p34 fun A P hA hP => (by
  have h70 := ok79 ts ts' x x' hx hx'
  obtain ⟨c, hc⟩ : ∃ c, c = decide (ts = ts') := ⟨_, rfl⟩
  rw [← hc] at h70 ⊢
  cbv
  repeat' first | with_reducible rfl | with_reducible refine And.intro ?_ ?_ | ((with_reducible intro hcc); first | (cases hcc; done) | skip) | ((with_reducible show goC _ _ _ _ _ _ _ _); cbv) | ((with_reducible show goOps _ _ _ _ _); cbv) | ((with_reducible show okWr _ _ = _); rfl) | ((with_reducible refine callK_eq hA hP ?_ ?_ ?_ (Wks.refl _) (fun _ _ => h70)); exact rfl; exact rfl; cbv) | ((with_reducible refine hA.fin_pl _ _ _ ?_); cbv) | (simp only [hA.natLit, hA.natOf, hA.natCast]; cbv)
  all_goals try simp only [hA.add, hA.sub, hA.mul, hA.neg, hA.div, hA.mod, hA.mn, hA.mx, hA.eq, hA.lt, hA.le, hA.nat, hA.R, hA.lep, hA.ltp, hA.seq, inR, n_cast, Int.ofNat_eq_natCast, Option.getD_some, Option.getD_none] at *
  all_goals first | rfl | (clear h70 hc; grind; done) | (trace_state; fail))
end Go.Proofs.Ytfplalbognalkaa.Ab
/- The code of functions over trees. -/
namespace Go.Proofs.Ytfplalbognalkaa.Ab
open Go
def c22 : F := ⟨12, [(.tmp 4)], (.seq (.reg [⟨(some 2), none, (.box (.s 0))⟩, ⟨(some 4), none, (.mov (.c (.int 0)))⟩]) (.seq (.reg [⟨(some 5), none, (.fadr 0 (.s 2))⟩, ⟨(some 6), none, (.load false 1 (.s 5))⟩, ⟨(some 7), none, (.mov (.s 1))⟩, ⟨(some 8), none, (.call 62 [(.s 6), (.s 7)])⟩, ⟨(some 1), none, (.mov (.s 8))⟩]) (.seq (.seq (.reg [⟨(some 9), none, (.mov (.s 1))⟩, ⟨(some 10), none, (.bin .lss (.s 9) (.c (.int 0)))⟩]) (.cond (.s 10) (.seq (.reg [⟨(some 4), none, (.mov (.c (.int (-1))))⟩]) .ret) .skip)) (.seq (.reg [⟨(some 11), none, (.mov (.s 1))⟩, ⟨(some 4), none, (.mov (.s 11))⟩]) .ret))))⟩
theorem p22 : prepF Try.prog 22 = some c22 := by kernel_rfl
def c23 : F := ⟨53, [(.tmp 2)], (.seq (.reg [⟨(some 1), none, (.box (.s 0))⟩, ⟨(some 2), none, (.mov (.c (.bool false)))⟩]) (.seq (.reg [⟨(some 6), none, (.fadr 0 (.s 1))⟩, ⟨(some 7), none, (.load false 1 (.s 6))⟩, ⟨(some 3), none, (.mov (.s 7))⟩]) (.seq (.seq (.reg [⟨(some 8), none, (.mov (.s 3))⟩, ⟨(some 9), none, (.lenl (.s 8))⟩, ⟨(some 10), none, (.bin .lss (.s 9) (.c (.int 1)))⟩, ⟨(some 11), none, (.mov (.s 10))⟩, ⟨(some 12), (some (11, false)), (.mov (.s 3))⟩, ⟨(some 13), (some (11, false)), (.lenl (.s 12))⟩, ⟨(some 14), (some (11, false)), (.bin .gtr (.s 13) (.c (.int 10000)))⟩, ⟨(some 15), none, (.pick (.s 11) (.c (.bool true)) (.s 14))⟩, ⟨(some 16), none, (.mov (.s 15))⟩, ⟨(some 17), (some (16, false)), (.mov (.s 3))⟩, ⟨(some 18), (some (16, false)), (.mov (.s 3))⟩, ⟨(some 19), (some (16, false)), (.lenl (.s 18))⟩, ⟨(some 20), (some (16, false)), (.bin .sub (.s 19) (.c (.int 1)))⟩, ⟨(some 21), (some (16, false)), (.call 63 [(.s 17), (.s 20)])⟩, ⟨(some 22), (some (16, false)), (.bin .neq (.s 21) (.c (.int 0)))⟩, ⟨(some 23), none, (.pick (.s 16) (.c (.bool true)) (.s 22))⟩]) (.cond (.s 23) (.seq (.reg [⟨(some 2), none, (.mov (.c (.bool false)))⟩]) .ret) .skip)) (.seq (.seq (.reg [⟨(some 4), none, (.mov (.c (.int 0)))⟩]) (.block 0 (.loop (.seq (.seq (.reg [⟨(some 24), none, (.mov (.s 4))⟩, ⟨(some 25), none, (.mov (.s 3))⟩, ⟨(some 26), none, (.lenl (.s 25))⟩, ⟨(some 27), none, (.bin .lss (.s 24) (.s 26))⟩]) (.cond (.s 27) .skip (.exit 0))) (.seq (.block 1 (.seq (.reg [⟨(some 30), none, (.mov (.s 3))⟩, ⟨(some 31), none, (.mov (.s 4))⟩, ⟨(some 32), none, (.call 64 [(.s 30), (.s 31)])⟩, ⟨(some 33), none, (.un .not (.s 32))⟩]) (.cond (.s 33) (.seq (.reg [⟨(some 2), none, (.mov (.c (.bool false)))⟩]) .ret) .skip))) (.reg [⟨(some 28), none, (.mov (.s 4))⟩, ⟨(some 29), none, (.bin .add (.s 28) (.c (.int 1)))⟩, ⟨(some 4), none, (.mov (.s 29))⟩])))))) (.seq (.reg [⟨(some 34), none, (.mov (.s 3))⟩, ⟨(some 35), none, (.call 65 [(.s 34)])⟩, ⟨(some 5), none, (.mov (.s 35))⟩]) (.seq (.reg [⟨(some 36), none, (.mov (.s 3))⟩, ⟨(some 37), none, (.mov (.s 3))⟩, ⟨(some 38), none, (.lenl (.s 37))⟩, ⟨(some 39), none, (.bin .sub (.s 38) (.c (.int 1)))⟩, ⟨(some 40), none, (.iadr none 6 (.s 36) (.s 39))⟩, ⟨(some 41), none, (.fadr 0 (.s 40))⟩, ⟨(some 42), none, (.load false 1 (.s 41))⟩, ⟨(some 43), none, (.call 66 [(.s 42)])⟩, ⟨(some 44), none, (.mov (.s 43))⟩, ⟨(some 45), (some (44, true)), (.mov (.s 5))⟩, ⟨(some 46), (some (44, true)), (.mov (.s 3))⟩, ⟨(some 47), (some (44, true)), (.lenl (.s 46))⟩, ⟨(some 48), (some (44, true)), (.bin .sub (.s 47) (.c (.int 1)))⟩, ⟨(some 49), (some (44, true)), (.iadr none 1 (.s 45) (.s 48))⟩, ⟨(some 50), (some (44, true)), (.load false 1 (.s 49))⟩, ⟨(some 51), (some (44, true)), (.bin .leq (.s 50) (.c (.int 200)))⟩, ⟨(some 52), none, (.pick (.s 44) (.s 51) (.c (.bool false)))⟩, ⟨(some 2), none, (.mov (.s 52))⟩]) .ret))))))⟩
theorem p23 : prepF Try.prog 23 = some c23 := by kernel_rfl
def c24 : F := ⟨9, [(.cell 2 true 1)], (.seq (.reg [⟨(some 1), none, (.box (.s 0))⟩, ⟨(some 2), none, (.alloc [(.e (.sl []))])⟩]) (.seq (.reg [⟨(some 3), none, (.alloc [(.e (.sl []))])⟩]) (.seq (.reg [⟨(some 4), none, (.fadr 0 (.s 1))⟩, ⟨(some 5), none, (.load false 1 (.s 4))⟩, ⟨(some 6), none, (.call 67 [(.s 5)])⟩, ⟨(some 7), none, (.fadr 0 (.s 3))⟩, ⟨none, none, (.store false 1 (.s 7) (.s 6))⟩]) (.seq (.reg [⟨(some 8), none, (.load true 1 (.s 3))⟩, ⟨none, none, (.store true 1 (.s 2) (.s 8))⟩]) .ret))))⟩
theorem p24 : prepF Try.prog 24 = some c24 := by kernel_rfl
def c25 : F := ⟨133, [(.tmp 2)], (.seq (.reg [⟨(some 1), none, (.box (.s 0))⟩, ⟨(some 2), none, (.mov (.c (.bool false)))⟩]) (.seq (.seq (.reg [⟨(some 12), none, (.fadr 0 (.s 1))⟩, ⟨(some 13), none, (.load false 1 (.s 12))⟩, ⟨(some 14), none, (.lenl (.s 13))⟩, ⟨(some 15), none, (.bin .lss (.s 14) (.c (.int 1)))⟩, ⟨(some 16), none, (.mov (.s 15))⟩, ⟨(some 17), (some (16, false)), (.fadr 0 (.s 1))⟩, ⟨(some 18), (some (16, false)), (.load false 1 (.s 17))⟩, ⟨(some 19), (some (16, false)), (.lenl (.s 18))⟩, ⟨(some 20), (some (16, false)), (.bin .gtr (.s 19) (.c (.int 10000)))⟩, ⟨(some 21), none, (.pick (.s 16) (.c (.bool true)) (.s 20))⟩]) (.cond (.s 21) (.seq (.reg [⟨(some 2), none, (.mov (.c (.bool false)))⟩]) .ret) .skip)) (.seq (.reg [⟨(some 22), none, (.fadr 0 (.s 1))⟩, ⟨(some 23), none, (.load false 1 (.s 22))⟩, ⟨(some 24), none, (.lenl (.s 23))⟩, ⟨(some 25), none, (.mks [(.int 0)] (.s 24))⟩, ⟨(some 3), none, (.mov (.s 25))⟩]) (.seq (.reg [⟨(some 26), none, (.fadr 0 (.s 1))⟩, ⟨(some 27), none, (.load false 1 (.s 26))⟩, ⟨(some 28), none, (.lenl (.s 27))⟩, ⟨(some 29), none, (.mks [(.int 0)] (.s 28))⟩, ⟨(some 4), none, (.mov (.s 29))⟩]) (.seq (.seq (.reg [⟨(some 30), none, (.fadr 0 (.s 1))⟩, ⟨(some 31), none, (.load false 1 (.s 30))⟩, ⟨(some 32), none, (.lenl (.s 31))⟩, ⟨(some 33), none, (.mov (.c (.int 0)))⟩]) (.block 0 (.loop (.seq (.reg [⟨(some 34), none, (.bin .lss (.s 33) (.s 32))⟩]) (.seq (.cond (.s 34) .skip (.exit 0)) (.seq (.block 1 (.seq (.reg [⟨(some 35), none, (.mov (.s 33))⟩, ⟨(some 36), none, (.iadr none 6 (.s 31) (.s 33))⟩, ⟨(some 37), none, (.load true 6 (.s 36))⟩, ⟨(some 6), none, (.alloc [(.int 0), (.int 0), (.int 0), (.str []), (.str []), (.e (.sl []))])⟩, ⟨(some 5), none, (.mov (.s 35))⟩, ⟨none, none, (.store true 6 (.s 6) (.s 37))⟩]) (.seq (.reg [⟨(some 38), none, (.mov (.s 5))⟩, ⟨(some 7), none, (.mov (.s 38))⟩]) (.seq (.reg [⟨(some 39), none, (.fadr 5 (.s 6))⟩, ⟨(some 40), none, (.load false 1 (.s 39))⟩, ⟨(some 41), none, (.lenl (.s 40))⟩, ⟨(some 42), none, (.mks [(.int 0)] (.s 41))⟩, ⟨(some 8), none, (.mov (.s 42))⟩]) (.seq (.seq (.reg [⟨(some 43), none, (.fadr 5 (.s 6))⟩, ⟨(some 44), none, (.load false 1 (.s 43))⟩, ⟨(some 45), none, (.lenl (.s 44))⟩, ⟨(some 46), none, (.bin .sub (.s 45) (.c (.int 1)))⟩, ⟨(some 9), none, (.mov (.s 46))⟩]) (.block 2 (.loop (.seq (.seq (.reg [⟨(some 47), none, (.mov (.s 9))⟩, ⟨(some 48), none, (.bin .geq (.s 47) (.c (.int 0)))⟩]) (.cond (.s 48) .skip (.exit 2))) (.seq (.block 3 (.seq (.seq (.reg [⟨(some 51), none, (.mov (.s 7))⟩, ⟨(some 52), none, (.bin .lss (.s 51) (.c (.int 1)))⟩, ⟨(some 53), none, (.mov (.s 52))⟩, ⟨(some 54), (some (53, false)), (.fadr 5 (.s 6))⟩, ⟨(some 55), (some (53, false)), (.load false 1 (.s 54))⟩, ⟨(some 56), (some (53, false)), (.mov (.s 9))⟩, ⟨(some 57), (some (53, false)), (.iadr none 1 (.s 55) (.s 56))⟩, ⟨(some 58), (some (53, false)), (.load false 1 (.s 57))⟩, ⟨(some 59), (some (53, false)), (.mov (.s 7))⟩, ⟨(some 60), (some (53, false)), (.bin .sub (.s 59) (.c (.int 1)))⟩, ⟨(some 61), (some (53, false)), (.bin .neq (.s 58) (.s 60))⟩, ⟨(some 62), none, (.pick (.s 53) (.c (.bool true)) (.s 61))⟩]) (.cond (.s 62) (.seq (.reg [⟨(some 2), none, (.mov (.c (.bool false)))⟩]) .ret) .skip)) (.seq (.reg [⟨(some 63), none, (.fadr 5 (.s 6))⟩, ⟨(some 64), none, (.load false 1 (.s 63))⟩, ⟨(some 65), none, (.mov (.s 9))⟩, ⟨(some 66), none, (.iadr none 1 (.s 64) (.s 65))⟩, ⟨(some 67), none, (.load false 1 (.s 66))⟩, ⟨(some 10), none, (.mov (.s 67))⟩]) (.seq (.reg [⟨(some 68), none, (.mov (.s 8))⟩, ⟨(some 69), none, (.mov (.s 9))⟩, ⟨(some 70), none, (.fadr 0 (.s 1))⟩, ⟨(some 71), none, (.load false 1 (.s 70))⟩, ⟨(some 72), none, (.mov (.s 10))⟩, ⟨(some 73), none, (.iadr none 6 (.s 71) (.s 72))⟩, ⟨(some 74), none, (.fadr 0 (.s 73))⟩, ⟨(some 75), none, (.load false 1 (.s 74))⟩, ⟨(some 76), none, (.iadr none 1 (.s 68) (.s 69))⟩, ⟨none, none, (.store false 1 (.s 76) (.s 75))⟩]) (.seq (.dreg [⟨⟨(some 77), none, (.mov (.s 4))⟩, [], [4]⟩, ⟨⟨(some 78), none, (.mov (.s 5))⟩, [0], [5]⟩, ⟨⟨(some 79), none, (.mov (.s 4))⟩, [0, 1], [4]⟩, ⟨⟨(some 80), none, (.mov (.s 5))⟩, [0, 1, 2], [5]⟩, ⟨⟨(some 81), none, (.iadr none 1 (.s 79) (.s 80))⟩, [0, 1], [79, 80]⟩, ⟨⟨(some 82), none, (.load false 1 (.s 81))⟩, [0, 1], [81]⟩, ⟨⟨(some 83), none, (.mov (.s 4))⟩, [0, 1, 2, 3, 4, 5], [4]⟩, ⟨⟨(some 84), none, (.mov (.s 10))⟩, [0, 1, 2, 3, 4, 5, 6], [10]⟩, ⟨⟨(some 85), none, (.iadr none 1 (.s 83) (.s 84))⟩, [0, 1, 2, 3, 4, 5], [83, 84]⟩, ⟨⟨(some 86), none, (.load false 1 (.s 85))⟩, [0, 1, 2, 3, 4, 5], [85]⟩, ⟨⟨(some 87), none, (.mx (.s 82) (.s 86))⟩, [0, 1], [82, 86]⟩, ⟨⟨(some 88), none, (.iadr none 1 (.s 77) (.s 78))⟩, [], [77, 78]⟩, ⟨⟨none, none, (.store false 1 (.s 88) (.s 87))⟩, [], [88, 87]⟩]) (.reg [⟨(some 89), none, (.mov (.s 3))⟩, ⟨(some 90), none, (.mov (.s 10))⟩, ⟨(some 91), none, (.iadr none 1 (.s 89) (.s 90))⟩, ⟨(some 92), none, (.load false 1 (.s 91))⟩, ⟨(some 7), none, (.mov (.s 92))⟩])))))) (.reg [⟨(some 49), none, (.mov (.s 9))⟩, ⟨(some 50), none, (.bin .sub (.s 49) (.c (.int 1)))⟩, ⟨(some 9), none, (.mov (.s 50))⟩])))))) (.seq (.reg [⟨(some 93), none, (.mov (.s 3))⟩, ⟨(some 94), none, (.mov (.s 5))⟩, ⟨(some 95), none, (.mov (.s 7))⟩, ⟨(some 96), none, (.iadr none 1 (.s 93) (.s 94))⟩, ⟨none, none, (.store false 1 (.s 96) (.s 95))⟩]) (.seq (.reg [⟨(some 97), none, (.mov (.s 4))⟩, ⟨(some 98), none, (.mov (.s 5))⟩, ⟨(some 99), none, (.iadr none 1 (.s 97) (.s 98))⟩, ⟨(some 100), none, (.load false 1 (.s 99))⟩, ⟨(some 101), none, (.bin .add (.s 100) (.c (.int 1)))⟩, ⟨(some 102), none, (.iadr none 1 (.s 97) (.s 98))⟩, ⟨none, none, (.store false 1 (.s 102) (.s 101))⟩]) (.seq (.reg [⟨(some 103), none, (.mov (.s 4))⟩, ⟨(some 104), none, (.mov (.s 5))⟩, ⟨(some 105), none, (.iadr none 1 (.s 103) (.s 104))⟩, ⟨(some 106), none, (.load false 1 (.s 105))⟩, ⟨(some 107), none, (.bin .gtr (.s 106) (.c (.int 200)))⟩, ⟨(some 108), none, (.mov (.s 107))⟩, ⟨(some 109), (some (108, false)), (.load true 6 (.s 6))⟩, ⟨(some 110), (some (108, false)), (.mov (.s 8))⟩, ⟨(some 111), (some (108, false)), (.call 68 [(.s 109), (.s 110)])⟩, ⟨(some 112), (some (108, false)), (.un .not (.s 111))⟩, ⟨(some 113), none, (.pick (.s 108) (.c (.bool true)) (.s 112))⟩]) (.cond (.s 113) (.seq (.reg [⟨(some 2), none, (.mov (.c (.bool false)))⟩]) .ret) .skip))))))))) (.reg [⟨(some 114), none, (.bin .add (.s 33) (.c (.int 1)))⟩, ⟨(some 33), none, (.mov (.s 114))⟩]))))))) (.seq (.reg [⟨(some 115), none, (.fadr 0 (.s 1))⟩, ⟨(some 116), none, (.load false 1 (.s 115))⟩, ⟨(some 117), none, (.lenl (.s 116))⟩, ⟨(some 118), none, (.bin .sub (.s 117) (.c (.int 1)))⟩, ⟨(some 11), none, (.mov (.s 118))⟩]) (.seq (.reg [⟨(some 119), none, (.mov (.s 3))⟩, ⟨(some 120), none, (.mov (.s 11))⟩, ⟨(some 121), none, (.iadr none 1 (.s 119) (.s 120))⟩, ⟨(some 122), none, (.load false 1 (.s 121))⟩, ⟨(some 123), none, (.bin .eql (.s 122) (.c (.int 0)))⟩, ⟨(some 124), none, (.mov (.s 123))⟩, ⟨(some 125), (some (124, true)), (.fadr 0 (.s 1))⟩, ⟨(some 126), (some (124, true)), (.load false 1 (.s 125))⟩, ⟨(some 127), (some (124, true)), (.mov (.s 11))⟩, ⟨(some 128), (some (124, true)), (.iadr none 6 (.s 126) (.s 127))⟩, ⟨(some 129), (some (124, true)), (.fadr 0 (.s 128))⟩, ⟨(some 130), (some (124, true)), (.load false 1 (.s 129))⟩, ⟨(some 131), (some (124, true)), (.call 69 [(.s 130)])⟩, ⟨(some 132), none, (.pick (.s 124) (.s 131) (.c (.bool false)))⟩, ⟨(some 2), none, (.mov (.s 132))⟩]) .ret)))))))⟩
theorem p25 : prepF Try.prog 25 = some c25 := by kernel_rfl
def c26 : F := ⟨11, [(.tmp 4)], (.seq (.reg [⟨(some 2), none, (.box (.s 0))⟩, ⟨(some 3), none, (.box (.s 1))⟩, ⟨(some 4), none, (.mov (.c (.bool false)))⟩]) (.seq (.seq (.reg [⟨(some 5), none, (.fadr 0 (.s 2))⟩, ⟨(some 6), none, (.load false 1 (.s 5))⟩, ⟨(some 7), none, (.fadr 0 (.s 3))⟩, ⟨(some 8), none, (.load false 1 (.s 7))⟩, ⟨(some 9), none, (.call 70 [(.s 6), (.s 8)])⟩, ⟨(some 10), none, (.un .not (.s 9))⟩]) (.cond (.s 10) (.seq (.reg [⟨(some 4), none, (.mov (.c (.bool false)))⟩]) .ret) .skip)) (.seq (.reg [⟨(some 4), none, (.mov (.c (.bool true)))⟩]) .ret)))⟩
theorem p26 : prepF Try.prog 26 = some c26 := by kernel_rfl
def c62 : F := ⟨27, [(.tmp 4)], (.seq (.reg [⟨(some 4), none, (.mov (.c (.int 0)))⟩]) (.seq (.reg [⟨(some 6), none, (.mov (.s 1))⟩, ⟨(some 7), none, (.mov (.s 0))⟩, ⟨(some 8), none, (.lenl (.s 7))⟩, ⟨(some 9), none, (.bin .sub (.s 6) (.s 8))⟩, ⟨(some 1), none, (.mov (.s 9))⟩]) (.seq (.seq (.reg [⟨(some 10), none, (.mov (.s 1))⟩, ⟨(some 11), none, (.bin .lss (.s 10) (.c (.int 0)))⟩]) (.cond (.s 11) (.seq (.reg [⟨(some 4), none, (.mov (.c (.int (-1))))⟩]) .ret) .skip)) (.seq (.seq (.reg [⟨(some 5), none, (.mov (.c (.int 0)))⟩]) (.block 0 (.loop (.seq (.seq (.reg [⟨(some 12), none, (.mov (.s 5))⟩, ⟨(some 13), none, (.mov (.s 0))⟩, ⟨(some 14), none, (.lenl (.s 13))⟩, ⟨(some 15), none, (.bin .lss (.s 12) (.s 14))⟩]) (.cond (.s 15) .skip (.exit 0))) (.seq (.block 1 (.seq (.reg [⟨(some 18), none, (.mov (.s 0))⟩, ⟨(some 19), none, (.mov (.s 5))⟩, ⟨(some 20), none, (.iadr none 6 (.s 18) (.s 19))⟩, ⟨(some 21), none, (.load true 6 (.s 20))⟩, ⟨(some 22), none, (.mov (.s 1))⟩, ⟨(some 23), none, (.call 112 [(.s 21), (.s 22)])⟩, ⟨(some 1), none, (.mov (.s 23))⟩]) (.seq (.reg [⟨(some 24), none, (.mov (.s 1))⟩, ⟨(some 25), none, (.bin .lss (.s 24) (.c (.int 0)))⟩]) (.cond (.s 25) (.seq (.reg [⟨(some 4), none, (.mov (.c (.int (-1))))⟩]) .ret) .skip)))) (.reg [⟨(some 16), none, (.mov (.s 5))⟩, ⟨(some 17), none, (.bin .add (.s 16) (.c (.int 1)))⟩, ⟨(some 5), none, (.mov (.s 17))⟩])))))) (.seq (.reg [⟨(some 26), none, (.mov (.s 1))⟩, ⟨(some 4), none, (.mov (.s 26))⟩]) .ret)))))⟩
theorem p62 : prepF Try.prog 62 = some c62 := by kernel_rfl
def c63 : F := ⟨42, [(.tmp 4)], (.seq (.reg [⟨(some 4), none, (.mov (.c (.int 0)))⟩]) (.seq (.reg [⟨(some 9), none, (.mov (.s 1))⟩, ⟨(some 10), none, (.bin .sub (.s 9) (.c (.int 1)))⟩, ⟨(some 5), none, (.mov (.s 10))⟩]) (.seq (.reg [⟨(some 11), none, (.mov (.s 0))⟩, ⟨(some 12), none, (.mov (.s 1))⟩, ⟨(some 13), none, (.iadr none 6 (.s 11) (.s 12))⟩, ⟨(some 14), none, (.fadr 5 (.s 13))⟩, ⟨(some 15), none, (.load false 1 (.s 14))⟩, ⟨(some 6), none, (.mov (.s 15))⟩]) (.seq (.seq (.reg [⟨(some 16), none, (.mov (.s 6))⟩, ⟨(some 17), none, (.lenl (.s 16))⟩, ⟨(some 18), none, (.bin .sub (.s 17) (.c (.int 1)))⟩, ⟨(some 7), none, (.mov (.s 18))⟩]) (.block 0 (.loop (.seq (.seq (.reg [⟨(some 19), none, (.mov (.s 7))⟩, ⟨(some 20), none, (.bin .geq (.s 19) (.c (.int 0)))⟩]) (.cond (.s 20) .skip (.exit 0))) (.seq (.block 1 (.seq (.seq (.reg [⟨(some 23), none, (.mov (.s 5))⟩, ⟨(some 24), none, (.bin .lss (.s 23) (.c (.int 0)))⟩, ⟨(some 25), none, (.mov (.s 24))⟩, ⟨(some 26), (some (25, false)), (.mov (.s 6))⟩, ⟨(some 27), (some (25, false)), (.mov (.s 7))⟩, ⟨(some 28), (some (25, false)), (.iadr none 1 (.s 26) (.s 27))⟩, ⟨(some 29), (some (25, false)), (.load false 1 (.s 28))⟩, ⟨(some 30), (some (25, false)), (.mov (.s 5))⟩, ⟨(some 31), (some (25, false)), (.bin .neq (.s 29) (.s 30))⟩, ⟨(some 32), none, (.pick (.s 25) (.c (.bool true)) (.s 31))⟩]) (.cond (.s 32) (.seq (.reg [⟨(some 4), none, (.mov (.c (.int (-1))))⟩]) .ret) .skip)) (.seq (.reg [⟨(some 33), none, (.mov (.s 0))⟩, ⟨(some 34), none, (.mov (.s 5))⟩, ⟨(some 35), none, (.call 63 [(.s 33), (.s 34)])⟩, ⟨(some 8), none, (.mov (.s 35))⟩]) (.seq (.seq (.reg [⟨(some 36), none, (.mov (.s 8))⟩, ⟨(some 37), none, (.bin .lss (.s 36) (.c (.int 0)))⟩]) (.cond (.s 37) (.seq (.reg [⟨(some 4), none, (.mov (.c (.int (-1))))⟩]) .ret) .skip)) (.reg [⟨(some 38), none, (.mov (.s 8))⟩, ⟨(some 39), none, (.bin .sub (.s 38) (.c (.int 1)))⟩, ⟨(some 5), none, (.mov (.s 39))⟩]))))) (.reg [⟨(some 21), none, (.mov (.s 7))⟩, ⟨(some 22), none, (.bin .sub (.s 21) (.c (.int 1)))⟩, ⟨(some 7), none, (.mov (.s 22))⟩])))))) (.seq (.reg [⟨(some 40), none, (.mov (.s 5))⟩, ⟨(some 41), none, (.bin .add (.s 40) (.c (.int 1)))⟩, ⟨(some 4), none, (.mov (.s 41))⟩]) .ret)))))⟩
theorem p63 : prepF Try.prog 63 = some c63 := by kernel_rfl
def c64 : F := ⟨311, [(.tmp 4)], (.seq (.reg [⟨(some 4), none, (.mov (.c (.bool false)))⟩]) (.seq (.reg [⟨(some 13), none, (.mov (.s 0))⟩, ⟨(some 14), none, (.mov (.s 1))⟩, ⟨(some 15), none, (.iadr none 6 (.s 13) (.s 14))⟩, ⟨(some 16), none, (.load true 6 (.s 15))⟩, ⟨(some 5), none, (.alloc [(.int 0), (.int 0), (.int 0), (.str []), (.str []), (.e (.sl []))])⟩, ⟨none, none, (.store true 6 (.s 5) (.s 16))⟩]) (.seq (.reg [⟨(some 17), none, (.mov (.s 0))⟩, ⟨(some 18), none, (.mov (.s 1))⟩, ⟨(some 19), none, (.call 113 [(.s 17), (.s 18)])⟩, ⟨(some 6), none, (.mov (.s 19))⟩]) (.seq (.reg [⟨(some 20), none, (.fadr 0 (.s 5))⟩, ⟨(some 21), none, (.load false 1 (.s 20))⟩, ⟨(some 22), none, (.bin .eql (.s 21) (.c (.int 3)))⟩, ⟨(some 23), none, (.mov (.s 22))⟩, ⟨(some 24), (some (23, false)), (.fadr 0 (.s 5))⟩, ⟨(some 25), (some (23, false)), (.load false 1 (.s 24))⟩, ⟨(some 26), (some (23, false)), (.bin .eql (.s 25) (.c (.int 5)))⟩, ⟨(some 27), none, (.pick (.s 23) (.c (.bool true)) (.s 26))⟩, ⟨(some 7), none, (.mov (.s 27))⟩]) (.seq (.seq (.reg [⟨(some 28), none, (.fadr 3 (.s 5))⟩, ⟨(some 29), none, (.load false 1 (.s 28))⟩, ⟨(some 30), none, (.bin .neq (.s 29) (.c (.str [])))⟩, ⟨(some 31), none, (.mov (.s 7))⟩, ⟨(some 32), none, (.binb .neq (.s 30) (.s 31))⟩, ⟨(some 33), none, (.mov (.s 32))⟩, ⟨(some 34), (some (33, false)), (.fadr 4 (.s 5))⟩, ⟨(some 35), (some (33, false)), (.load false 1 (.s 34))⟩, ⟨(some 36), (some (33, false)), (.bin .neq (.s 35) (.c (.str [])))⟩, ⟨(some 37), (some (33, false)), (.fadr 0 (.s 5))⟩, ⟨(some 38), (some (33, false)), (.load false 1 (.s 37))⟩, ⟨(some 39), (some (33, false)), (.bin .eql (.s 38) (.c (.int 5)))⟩, ⟨(some 40), (some (33, false)), (.binb .neq (.s 36) (.s 39))⟩, ⟨(some 41), none, (.pick (.s 33) (.c (.bool true)) (.s 40))⟩]) (.cond (.s 41) (.seq (.reg [⟨(some 4), none, (.mov (.c (.bool false)))⟩]) .ret) .skip)) (.seq (.reg [⟨(some 42), none, (.fadr 0 (.s 5))⟩, ⟨(some 43), none, (.load false 1 (.s 42))⟩, ⟨(some 44), none, (.bin .eql (.s 43) (.c (.int 1)))⟩, ⟨(some 45), none, (.mov (.s 44))⟩, ⟨(some 46), (some (45, false)), (.fadr 0 (.s 5))⟩, ⟨(some 47), (some (45, false)), (.load false 1 (.s 46))⟩, ⟨(some 48), (some (45, false)), (.bin .eql (.s 47) (.c (.int 3)))⟩, ⟨(some 49), none, (.pick (.s 45) (.c (.bool true)) (.s 48))⟩, ⟨(some 50), none, (.mov (.s 49))⟩, ⟨(some 51), (some (50, false)), (.fadr 0 (.s 5))⟩, ⟨(some 52), (some (50, false)), (.load false 1 (.s 51))⟩, ⟨(some 53), (some (50, false)), (.bin .eql (.s 52) (.c (.int 4)))⟩, ⟨(some 54), none, (.pick (.s 50) (.c (.bool true)) (.s 53))⟩, ⟨(some 55), none, (.mov (.s 54))⟩, ⟨(some 56), (some (55, false)), (.fadr 0 (.s 5))⟩, ⟨(some 57), (some (55, false)), (.load false 1 (.s 56))⟩, ⟨(some 58), (some (55, false)), (.bin .eql (.s 57) (.c (.int 6)))⟩, ⟨(some 59), none, (.pick (.s 55) (.c (.bool true)) (.s 58))⟩, ⟨(some 60), none, (.mov (.s 59))⟩, ⟨(some 61), (some (60, false)), (.fadr 0 (.s 5))⟩, ⟨(some 62), (some (60, false)), (.load false 1 (.s 61))⟩, ⟨(some 63), (some (60, false)), (.bin .eql (.s 62) (.c (.int 12)))⟩, ⟨(some 64), none, (.pick (.s 60) (.c (.bool true)) (.s 63))⟩, ⟨(some 8), none, (.mov (.s 64))⟩]) (.seq (.seq (.reg [⟨(some 65), none, (.mov (.s 8))⟩, ⟨(some 66), none, (.un .not (.s 65))⟩, ⟨(some 67), none, (.mov (.s 66))⟩, ⟨(some 68), (some (67, true)), (.fadr 1 (.s 5))⟩, ⟨(some 69), (some (67, true)), (.load false 1 (.s 68))⟩, ⟨(some 70), (some (67, true)), (.bin .neq (.s 69) (.c (.int 0)))⟩, ⟨(some 71), none, (.pick (.s 67) (.s 70) (.c (.bool false)))⟩]) (.cond (.s 71) (.seq (.reg [⟨(some 4), none, (.mov (.c (.bool false)))⟩]) .ret) .skip)) (.seq (.reg [⟨(some 72), none, (.fadr 0 (.s 5))⟩, ⟨(some 73), none, (.load false 1 (.s 72))⟩, ⟨(some 74), none, (.bin .eql (.s 73) (.c (.int 4)))⟩, ⟨(some 75), none, (.mov (.s 74))⟩, ⟨(some 76), (some (75, false)), (.fadr 0 (.s 5))⟩, ⟨(some 77), (some (75, false)), (.load false 1 (.s 76))⟩, ⟨(some 78), (some (75, false)), (.bin .eql (.s 77) (.c (.int 6)))⟩, ⟨(some 79), none, (.pick (.s 75) (.c (.bool true)) (.s 78))⟩, ⟨(some 80), none, (.mov (.s 79))⟩, ⟨(some 81), (some (80, false)), (.fadr 0 (.s 5))⟩, ⟨(some 82), (some (80, false)), (.load false 1 (.s 81))⟩, ⟨(some 83), (some (80, false)), (.bin .eql (.s 82) (.c (.int 8)))⟩, ⟨(some 84), none, (.pick (.s 80) (.c (.bool true)) (.s 83))⟩, ⟨(some 85), none, (.mov (.s 84))⟩, ⟨(some 86), (some (85, false)), (.fadr 0 (.s 5))⟩, ⟨(some 87), (some (85, false)), (.load false 1 (.s 86))⟩, ⟨(some 88), (some (85, false)), (.bin .eql (.s 87) (.c (.int 9)))⟩, ⟨(some 89), none, (.pick (.s 85) (.c (.bool true)) (.s 88))⟩, ⟨(some 90), none, (.mov (.s 89))⟩, ⟨(some 91), (some (90, false)), (.fadr 0 (.s 5))⟩, ⟨(some 92), (some (90, false)), (.load false 1 (.s 91))⟩, ⟨(some 93), (some (90, false)), (.bin .eql (.s 92) (.c (.int 11)))⟩, ⟨(some 94), none, (.pick (.s 90) (.c (.bool true)) (.s 93))⟩, ⟨(some 95), none, (.mov (.s 94))⟩, ⟨(some 96), (some (95, false)), (.fadr 0 (.s 5))⟩, ⟨(some 97), (some (95, false)), (.load false 1 (.s 96))⟩, ⟨(some 98), (some (95, false)), (.bin .eql (.s 97) (.c (.int 12)))⟩, ⟨(some 99), none, (.pick (.s 95) (.c (.bool true)) (.s 98))⟩, ⟨(some 9), none, (.mov (.s 99))⟩]) (.seq (.seq (.reg [⟨(some 100), none, (.mov (.s 9))⟩, ⟨(some 101), none, (.un .not (.s 100))⟩, ⟨(some 102), none, (.mov (.s 101))⟩, ⟨(some 103), (some (102, true)), (.fadr 2 (.s 5))⟩, ⟨(some 104), (some (102, true)), (.load false 1 (.s 103))⟩, ⟨(some 105), (some (102, true)), (.bin .neq (.s 104) (.c (.int 0)))⟩, ⟨(some 106), none, (.pick (.s 102) (.s 105) (.c (.bool false)))⟩]) (.cond (.s 106) (.seq (.reg [⟨(some 4), none, (.mov (.c (.bool false)))⟩]) .ret) .skip)) (.seq (.reg [⟨(some 107), none, (.fadr 2 (.s 5))⟩, ⟨(some 108), none, (.load false 1 (.s 107))⟩, ⟨(some 109), none, (.bin .eql (.s 108) (.c (.int 0)))⟩, ⟨(some 110), none, (.mov (.s 109))⟩, ⟨(some 111), (some (110, false)), (.fadr 2 (.s 5))⟩, ⟨(some 112), (some (110, false)), (.load false 1 (.s 111))⟩, ⟨(some 113), (some (110, false)), (.bin .eql (.s 112) (.c (.int 1)))⟩, ⟨(some 114), none, (.pick (.s 110) (.c (.bool true)) (.s 113))⟩, ⟨(some 10), none, (.mov (.s 114))⟩]) (.seq (.reg [⟨(some 115), none, (.fadr 2 (.s 5))⟩, ⟨(some 116), none, (.load false 1 (.s 115))⟩, ⟨(some 117), none, (.bin .geq (.s 116) (.c (.int 1)))⟩, ⟨(some 118), none, (.mov (.s 117))⟩, ⟨(some 119), (some (118, true)), (.fadr 2 (.s 5))⟩, ⟨(some 120), (some (118, true)), (.load false 1 (.s 119))⟩, ⟨(some 121), (some (118, true)), (.bin .leq (.s 120) (.c (.int 6)))⟩, ⟨(some 122), none, (.pick (.s 118) (.s 121) (.c (.bool false)))⟩, ⟨(some 11), none, (.mov (.s 122))⟩]) (.seq (.seq (.reg [⟨(some 123), none, (.fadr 0 (.s 5))⟩, ⟨(some 124), none, (.load false 1 (.s 123))⟩, ⟨(some 125), none, (.bin .eql (.s 124) (.c (.int 1)))⟩]) (.cond (.s 125) (.seq (.reg [⟨(some 126), none, (.mov (.s 6))⟩, ⟨(some 127), none, (.bin .eql (.s 126) (.c (.str [])))⟩, ⟨(some 128), none, (.mov (.s 127))⟩, ⟨(some 129), (some (128, true)), (.fadr 1 (.s 5))⟩, ⟨(some 130), (some (128, true)), (.load false 1 (.s 129))⟩, ⟨(some 131), (some (128, true)), (.call 114 [(.s 130)])⟩, ⟨(some 132), none, (.pick (.s 128) (.s 131) (.c (.bool false)))⟩, ⟨(some 4), none, (.mov (.s 132))⟩]) .ret) .skip)) (.seq (.seq (.reg [⟨(some 133), none, (.fadr 0 (.s 5))⟩, ⟨(some 134), none, (.load false 1 (.s 133))⟩, ⟨(some 135), none, (.bin .eql (.s 134) (.c (.int 2)))⟩]) (.cond (.s 135) (.seq (.reg [⟨(some 136), none, (.mov (.s 6))⟩, ⟨(some 137), none, (.bin .eql (.s 136) (.c (.str [])))⟩, ⟨(some 4), none, (.mov (.s 137))⟩]) .ret) .skip)) (.seq (.seq (.reg [⟨(some 138), none, (.fadr 0 (.s 5))⟩, ⟨(some 139), none, (.load false 1 (.s 138))⟩, ⟨(some 140), none, (.bin .eql (.s 139) (.c (.int 3)))⟩]) (.cond (.s 140) (.seq (.reg [⟨(some 141), none, (.mov (.s 6))⟩, ⟨(some 142), none, (.bin .eql (.s 141) (.c (.str [])))⟩, ⟨(some 143), none, (.mov (.s 142))⟩, ⟨(some 144), (some (143, true)), (.fadr 3 (.s 5))⟩, ⟨(some 145), (some (143, true)), (.load false 1 (.s 144))⟩, ⟨(some 146), (some (143, true)), (.call 115 [(.s 145)])⟩, ⟨(some 147), none, (.pick (.s 143) (.s 146) (.c (.bool false)))⟩, ⟨(some 148), none, (.mov (.s 147))⟩, ⟨(some 149), (some (148, true)), (.fadr 1 (.s 5))⟩, ⟨(some 150), (some (148, true)), (.load false 1 (.s 149))⟩, ⟨(some 151), (some (148, true)), (.bin .geq (.s 150) (.c (.int 0)))⟩, ⟨(some 152), none, (.pick (.s 148) (.s 151) (.c (.bool false)))⟩, ⟨(some 153), none, (.mov (.s 152))⟩, ⟨(some 154), (some (153, true)), (.fadr 1 (.s 5))⟩, ⟨(some 155), (some (153, true)), (.load false 1 (.s 154))⟩, ⟨(some 156), (some (153, true)), (.call 114 [(.s 155)])⟩, ⟨(some 157), none, (.pick (.s 153) (.s 156) (.c (.bool false)))⟩, ⟨(some 4), none, (.mov (.s 157))⟩]) .ret) .skip)) (.seq (.seq (.reg [⟨(some 158), none, (.fadr 0 (.s 5))⟩, ⟨(some 159), none, (.load false 1 (.s 158))⟩, ⟨(some 160), none, (.bin .eql (.s 159) (.c (.int 5)))⟩]) (.cond (.s 160) (.seq (.reg [⟨(some 161), none, (.mov (.s 6))⟩, ⟨(some 162), none, (.bin .eql (.s 161) (.c (.str [])))⟩, ⟨(some 163), none, (.mov (.s 162))⟩, ⟨(some 164), (some (163, true)), (.fadr 3 (.s 5))⟩, ⟨(some 165), (some (163, true)), (.load false 1 (.s 164))⟩, ⟨(some 166), (some (163, true)), (.call 115 [(.s 165)])⟩, ⟨(some 167), none, (.pick (.s 163) (.s 166) (.c (.bool false)))⟩, ⟨(some 168), none, (.mov (.s 167))⟩, ⟨(some 169), (some (168, true)), (.fadr 4 (.s 5))⟩, ⟨(some 170), (some (168, true)), (.load false 1 (.s 169))⟩, ⟨(some 171), (some (168, true)), (.call 115 [(.s 170)])⟩, ⟨(some 172), none, (.pick (.s 168) (.s 171) (.c (.bool false)))⟩, ⟨(some 4), none, (.mov (.s 172))⟩]) .ret) .skip)) (.seq (.seq (.reg [⟨(some 173), none, (.fadr 0 (.s 5))⟩, ⟨(some 174), none, (.load false 1 (.s 173))⟩, ⟨(some 175), none, (.bin .eql (.s 174) (.c (.int 4)))⟩]) (.cond (.s 175) (.seq (.reg [⟨(some 176), none, (.fadr 2 (.s 5))⟩, ⟨(some 177), none, (.load false 1 (.s 176))⟩, ⟨(some 178), none, (.bin .geq (.s 177) (.c (.int 1)))⟩, ⟨(some 179), none, (.mov (.s 178))⟩, ⟨(some 180), (some (179, true)), (.fadr 2 (.s 5))⟩, ⟨(some 181), (some (179, true)), (.load false 1 (.s 180))⟩, ⟨(some 182), (some (179, true)), (.bin .leq (.s 181) (.c (.int 4)))⟩, ⟨(some 183), none, (.pick (.s 179) (.s 182) (.c (.bool false)))⟩, ⟨(some 184), none, (.mov (.s 183))⟩, ⟨(some 185), (some (184, true)), (.fadr 1 (.s 5))⟩, ⟨(some 186), (some (184, true)), (.load false 1 (.s 185))⟩, ⟨(some 187), (some (184, true)), (.bin .eql (.s 186) (.c (.int 1)))⟩, ⟨(some 188), (some (184, true)), (.fadr 2 (.s 5))⟩, ⟨(some 189), (some (184, true)), (.load false 1 (.s 188))⟩, ⟨(some 190), (some (184, true)), (.bin .gtr (.s 189) (.c (.int 1)))⟩, ⟨(some 191), (some (184, true)), (.binb .eql (.s 187) (.s 190))⟩, ⟨(some 192), none, (.pick (.s 184) (.s 191) (.c (.bool false)))⟩, ⟨(some 193), none, (.mov (.s 192))⟩, ⟨(some 194), (some (193, true)), (.fadr 1 (.s 5))⟩, ⟨(some 195), (some (193, true)), (.load false 1 (.s 194))⟩, ⟨(some 196), (some (193, true)), (.bin .eql (.s 195) (.c (.int 0)))⟩, ⟨(some 197), (some (193, true)), (.fadr 2 (.s 5))⟩, ⟨(some 198), (some (193, true)), (.load false 1 (.s 197))⟩, ⟨(some 199), (some (193, true)), (.bin .eql (.s 198) (.c (.int 1)))⟩, ⟨(some 200), (some (193, true)), (.binb .eql (.s 196) (.s 199))⟩, ⟨(some 201), none, (.pick (.s 193) (.s 200) (.c (.bool false)))⟩, ⟨(some 202), none, (.mov (.s 201))⟩, ⟨(some 203), (some (202, true)), (.mov (.s 6))⟩, ⟨(some 204), (some (202, true)), (.fadr 1 (.s 5))⟩, ⟨(some 205), (some (202, true)), (.load false 1 (.s 204))⟩, ⟨(some 206), (some (202, true)), (.call 116 [(.s 203), (.s 205)])⟩, ⟨(some 207), none, (.pick (.s 202) (.s 206) (.c (.bool false)))⟩, ⟨(some 4), none, (.mov (.s 207))⟩]) .ret) .skip)) (.seq (.seq (.reg [⟨(some 208), none, (.fadr 0 (.s 5))⟩, ⟨(some 209), none, (.load false 1 (.s 208))⟩, ⟨(some 210), none, (.bin .eql (.s 209) (.c (.int 6)))⟩]) (.cond (.s 210) (.seq (.reg [⟨(some 211), none, (.mov (.s 10))⟩, ⟨(some 212), none, (.mov (.s 211))⟩, ⟨(some 213), (some (212, true)), (.fadr 1 (.s 5))⟩, ⟨(some 214), (some (212, true)), (.load false 1 (.s 213))⟩, ⟨(some 215), (some (212, true)), (.bin .geq (.s 214) (.c (.int 1)))⟩, ⟨(some 216), none, (.pick (.s 212) (.s 215) (.c (.bool false)))⟩, ⟨(some 217), none, (.mov (.s 216))⟩, ⟨(some 218), (some (217, true)), (.mov (.s 6))⟩, ⟨(some 219), (some (217, true)), (.fadr 1 (.s 5))⟩, ⟨(some 220), (some (217, true)), (.load false 1 (.s 219))⟩, ⟨(some 221), (some (217, true)), (.call 116 [(.s 218), (.s 220)])⟩, ⟨(some 222), none, (.pick (.s 217) (.s 221) (.c (.bool false)))⟩, ⟨(some 4), none, (.mov (.s 222))⟩]) .ret) .skip)) (.seq (.seq (.reg [⟨(some 223), none, (.fadr 0 (.s 5))⟩, ⟨(some 224), none, (.load false 1 (.s 223))⟩, ⟨(some 225), none, (.bin .eql (.s 224) (.c (.int 7)))⟩]) (.cond (.s 225) (.seq (.seq (.reg [⟨(some 12), none, (.mov (.c (.int 0)))⟩]) (.block 0 (.loop (.seq (.seq (.reg [⟨(some 226), none, (.mov (.s 12))⟩, ⟨(some 227), none, (.fadr 5 (.s 5))⟩, ⟨(some 228), none, (.load false 1 (.s 227))⟩, ⟨(some 229), none, (.lenl (.s 228))⟩, ⟨(some 230), none, (.bin .lss (.s 226) (.s 229))⟩]) (.cond (.s 230) .skip (.exit 0))) (.seq (.block 1 (.seq (.reg [⟨(some 233), none, (.mov (.s 0))⟩, ⟨(some 234), none, (.fadr 5 (.s 5))⟩, ⟨(some 235), none, (.load false 1 (.s 234))⟩, ⟨(some 236), none, (.mov (.s 12))⟩, ⟨(some 237), none, (.iadr none 1 (.s 235) (.s 236))⟩, ⟨(some 238), none, (.load false 1 (.s 237))⟩, ⟨(some 239), none, (.iadr none 6 (.s 233) (.s 238))⟩, ⟨(some 240), none, (.fadr 0 (.s 239))⟩, ⟨(some 241), none, (.load false 1 (.s 240))⟩, ⟨(some 242), none, (.bin .neq (.s 241) (.c (.int 6)))⟩]) (.cond (.s 242) (.seq (.reg [⟨(some 4), none, (.mov (.c (.bool false)))⟩]) .ret) .skip))) (.reg [⟨(some 231), none, (.mov (.s 12))⟩, ⟨(some 232), none, (.bin .add (.s 231) (.c (.int 1)))⟩, ⟨(some 12), none, (.mov (.s 232))⟩])))))) (.seq (.reg [⟨(some 243), none, (.fadr 5 (.s 5))⟩, ⟨(some 244), none, (.load false 1 (.s 243))⟩, ⟨(some 245), none, (.lenl (.s 244))⟩, ⟨(some 246), none, (.bin .geq (.s 245) (.c (.int 2)))⟩, ⟨(some 4), none, (.mov (.s 246))⟩]) .ret)) .skip)) (.seq (.seq (.reg [⟨(some 247), none, (.fadr 0 (.s 5))⟩, ⟨(some 248), none, (.load false 1 (.s 247))⟩, ⟨(some 249), none, (.bin .eql (.s 248) (.c (.int 8)))⟩]) (.cond (.s 249) (.seq (.reg [⟨(some 250), none, (.mov (.s 11))⟩, ⟨(some 251), none, (.mov (.s 250))⟩, ⟨(some 252), (some (251, true)), (.mov (.s 6))⟩, ⟨(some 253), (some (251, true)), (.bin .eql (.s 252) (.c (.str [115, 115])))⟩, ⟨(some 254), none, (.pick (.s 251) (.s 253) (.c (.bool false)))⟩, ⟨(some 4), none, (.mov (.s 254))⟩]) .ret) .skip)) (.seq (.seq (.reg [⟨(some 255), none, (.fadr 0 (.s 5))⟩, ⟨(some 256), none, (.load false 1 (.s 255))⟩, ⟨(some 257), none, (.bin .eql (.s 256) (.c (.int 9)))⟩]) (.cond (.s 257) (.seq (.reg [⟨(some 258), none, (.mov (.s 10))⟩, ⟨(some 259), none, (.mov (.s 258))⟩, ⟨(some 260), (some (259, true)), (.mov (.s 6))⟩, ⟨(some 261), (some (259, true)), (.bin .eql (.s 260) (.c (.str [115])))⟩, ⟨(some 262), none, (.pick (.s 259) (.s 261) (.c (.bool false)))⟩, ⟨(some 4), none, (.mov (.s 262))⟩]) .ret) .skip)) (.seq (.seq (.reg [⟨(some 263), none, (.fadr 0 (.s 5))⟩, ⟨(some 264), none, (.load false 1 (.s 263))⟩, ⟨(some 265), none, (.bin .eql (.s 264) (.c (.int 10)))⟩]) (.cond (.s 265) (.seq (.reg [⟨(some 266), none, (.mov (.s 6))⟩, ⟨(some 267), none, (.bin .eql (.s 266) (.c (.str [113])))⟩, ⟨(some 4), none, (.mov (.s 267))⟩]) .ret) .skip)) (.seq (.seq (.reg [⟨(some 268), none, (.fadr 0 (.s 5))⟩, ⟨(some 269), none, (.load false 1 (.s 268))⟩, ⟨(some 270), none, (.bin .eql (.s 269) (.c (.int 11)))⟩]) (.cond (.s 270) (.seq (.reg [⟨(some 271), none, (.mov (.s 10))⟩, ⟨(some 272), none, (.mov (.s 271))⟩, ⟨(some 273), (some (272, true)), (.mov (.s 6))⟩, ⟨(some 274), (some (272, true)), (.bin .eql (.s 273) (.c (.str [115, 113])))⟩, ⟨(some 275), none, (.pick (.s 272) (.s 274) (.c (.bool false)))⟩, ⟨(some 4), none, (.mov (.s 275))⟩]) .ret) .skip)) (.seq (.seq (.reg [⟨(some 276), none, (.fadr 0 (.s 5))⟩, ⟨(some 277), none, (.load false 1 (.s 276))⟩, ⟨(some 278), none, (.bin .eql (.s 277) (.c (.int 12)))⟩]) (.cond (.s 278) (.seq (.reg [⟨(some 279), none, (.mov (.s 11))⟩, ⟨(some 280), none, (.mov (.s 279))⟩, ⟨(some 281), (some (280, true)), (.fadr 1 (.s 5))⟩, ⟨(some 282), (some (280, true)), (.load false 1 (.s 281))⟩, ⟨(some 283), (some (280, true)), (.bin .eql (.s 282) (.c (.int 1)))⟩, ⟨(some 284), (some (280, true)), (.mov (.s 283))⟩, ⟨(some 285), (some (284, false)), (.fadr 1 (.s 5))⟩, ⟨(some 286), (some (284, false)), (.load false 1 (.s 285))⟩, ⟨(some 287), (some (284, false)), (.bin .eql (.s 286) (.c (.int 2)))⟩, ⟨(some 288), (some (280, true)), (.pick (.s 284) (.c (.bool true)) (.s 287))⟩, ⟨(some 289), none, (.pick (.s 280) (.s 288) (.c (.bool false)))⟩, ⟨(some 290), none, (.mov (.s 289))⟩, ⟨(some 291), (some (290, true)), (.mov (.s 6))⟩, ⟨(some 292), (some (290, true)), (.bin .eql (.s 291) (.c (.str [115, 113])))⟩, ⟨(some 293), none, (.pick (.s 290) (.s 292) (.c (.bool false)))⟩, ⟨(some 4), none, (.mov (.s 293))⟩]) .ret) .skip)) (.seq (.seq (.reg [⟨(some 294), none, (.fadr 0 (.s 5))⟩, ⟨(some 295), none, (.load false 1 (.s 294))⟩, ⟨(some 296), none, (.bin .eql (.s 295) (.c (.int 13)))⟩]) (.cond (.s 296) (.seq (.reg [⟨(some 297), none, (.mov (.s 6))⟩, ⟨(some 298), none, (.bin .eql (.s 297) (.c (.str [99])))⟩, ⟨(some 4), none, (.mov (.s 298))⟩]) .ret) .skip)) (.seq (.reg [⟨(some 299), none, (.fadr 0 (.s 5))⟩, ⟨(some 300), none, (.load false 1 (.s 299))⟩, ⟨(some 301), none, (.bin .eql (.s 300) (.c (.int 14)))⟩, ⟨(some 302), none, (.mov (.s 301))⟩, ⟨(some 303), (some (302, false)), (.fadr 0 (.s 5))⟩, ⟨(some 304), (some (302, false)), (.load false 1 (.s 303))⟩, ⟨(some 305), (some (302, false)), (.bin .eql (.s 304) (.c (.int 15)))⟩, ⟨(some 306), none, (.pick (.s 302) (.c (.bool true)) (.s 305))⟩, ⟨(some 307), none, (.mov (.s 306))⟩, ⟨(some 308), (some (307, true)), (.mov (.s 6))⟩, ⟨(some 309), (some (307, true)), (.call 117 [(.s 308), (.c (.e (.v (.int .u8 99)))), (.c (.int 2))])⟩, ⟨(some 310), none, (.pick (.s 307) (.s 309) (.c (.bool false)))⟩, ⟨(some 4), none, (.mov (.s 310))⟩]) .ret)))))))))))))))))))))))))⟩
theorem p64 : prepF Try.prog 64 = some c64 := by kernel_rfl
def c65 : F := ⟨54, [(.tmp 2)], (.seq (.reg [⟨(some 2), none, (.mov (.c .zs))⟩]) (.seq (.reg [⟨(some 7), none, (.lit 1 [(.v (.int .i64 0))] 0 [])⟩, ⟨(some 3), none, (.mov (.s 7))⟩]) (.seq (.seq (.reg [⟨(some 4), none, (.mov (.c (.int 0)))⟩]) (.block 0 (.loop (.seq (.seq (.reg [⟨(some 8), none, (.mov (.s 4))⟩, ⟨(some 9), none, (.mov (.s 0))⟩, ⟨(some 10), none, (.lenl (.s 9))⟩, ⟨(some 11), none, (.bin .lss (.s 8) (.s 10))⟩]) (.cond (.s 11) .skip (.exit 0))) (.seq (.block 1 (.seq (.reg [⟨(some 5), none, (.mov (.c (.int 0)))⟩]) (.seq (.seq (.reg [⟨(some 6), none, (.mov (.c (.int 0)))⟩]) (.block 2 (.loop (.seq (.seq (.reg [⟨(some 14), none, (.mov (.s 6))⟩, ⟨(some 15), none, (.mov (.s 0))⟩, ⟨(some 16), none, (.mov (.s 4))⟩, ⟨(some 17), none, (.iadr none 6 (.s 15) (.s 16))⟩, ⟨(some 18), none, (.fadr 5 (.s 17))⟩, ⟨(some 19), none, (.load false 1 (.s 18))⟩, ⟨(some 20), none, (.lenl (.s 19))⟩, ⟨(some 21), none, (.bin .lss (.s 14) (.s 20))⟩]) (.cond (.s 21) .skip (.exit 2))) (.seq (.block 3 (.seq (.reg [⟨(some 24), none, (.mov (.s 3))⟩, ⟨(some 25), none, (.mov (.s 0))⟩, ⟨(some 26), none, (.mov (.s 4))⟩, ⟨(some 27), none, (.iadr none 6 (.s 25) (.s 26))⟩, ⟨(some 28), none, (.fadr 5 (.s 27))⟩, ⟨(some 29), none, (.load false 1 (.s 28))⟩, ⟨(some 30), none, (.mov (.s 6))⟩, ⟨(some 31), none, (.iadr none 1 (.s 29) (.s 30))⟩, ⟨(some 32), none, (.load false 1 (.s 31))⟩, ⟨(some 33), none, (.iadr none 1 (.s 24) (.s 32))⟩, ⟨(some 34), none, (.load false 1 (.s 33))⟩, ⟨(some 35), none, (.mov (.s 5))⟩, ⟨(some 36), none, (.bin .gtr (.s 34) (.s 35))⟩]) (.cond (.s 36) (.reg [⟨(some 37), none, (.mov (.s 3))⟩, ⟨(some 38), none, (.mov (.s 0))⟩, ⟨(some 39), none, (.mov (.s 4))⟩, ⟨(some 40), none, (.iadr none 6 (.s 38) (.s 39))⟩, ⟨(some 41), none, (.fadr 5 (.s 40))⟩, ⟨(some 42), none, (.load false 1 (.s 41))⟩, ⟨(some 43), none, (.mov (.s 6))⟩, ⟨(some 44), none, (.iadr none 1 (.s 42) (.s 43))⟩, ⟨(some 45), none, (.load false 1 (.s 44))⟩, ⟨(some 46), none, (.iadr none 1 (.s 37) (.s 45))⟩, ⟨(some 47), none, (.load false 1 (.s 46))⟩, ⟨(some 5), none, (.mov (.s 47))⟩]) .skip))) (.reg [⟨(some 22), none, (.mov (.s 6))⟩, ⟨(some 23), none, (.bin .add (.s 22) (.c (.int 1)))⟩, ⟨(some 6), none, (.mov (.s 23))⟩])))))) (.reg [⟨(some 48), none, (.mov (.s 3))⟩, ⟨(some 49), none, (.mov (.s 5))⟩, ⟨(some 50), none, (.bin .add (.s 49) (.c (.int 1)))⟩, ⟨(some 51), none, (.lit 1 [(.v (.int .i64 0))] 1 [(0, (.s 50))])⟩, ⟨(some 52), none, (.app 1 (.s 48) (.s 51))⟩, ⟨(some 3), none, (.mov (.s 52))⟩])))) (.reg [⟨(some 12), none, (.mov (.s 4))⟩, ⟨(some 13), none, (.bin .add (.s 12) (.c (.int 1)))⟩, ⟨(some 4), none, (.mov (.s 13))⟩])))))) (.seq (.reg [⟨(some 53), none, (.mov (.s 3))⟩, ⟨(some 2), none, (.mov (.s 53))⟩]) .ret))))⟩
theorem p65 : prepF Try.prog 65 = some c65 := by kernel_rfl
def c66 : F := ⟨9, [(.tmp 2)], (.seq (.reg [⟨(some 2), none, (.mov (.c (.bool false)))⟩]) (.seq (.reg [⟨(some 3), none, (.mov (.s 0))⟩, ⟨(some 4), none, (.bin .eql (.s 3) (.c (.int 6)))⟩, ⟨(some 5), none, (.mov (.s 4))⟩, ⟨(some 6), (some (5, false)), (.mov (.s 0))⟩, ⟨(some 7), (some (5, false)), (.bin .eql (.s 6) (.c (.int 7)))⟩, ⟨(some 8), none, (.pick (.s 5) (.c (.bool true)) (.s 7))⟩, ⟨(some 2), none, (.mov (.s 8))⟩]) .ret))⟩
theorem p66 : prepF Try.prog 66 = some c66 := by kernel_rfl
def c67 : F := ⟨23, [(.tmp 2)], (.seq (.reg [⟨(some 2), none, (.mov (.c .zs))⟩]) (.seq (.reg [⟨(some 5), none, (.mov (.s 0))⟩, ⟨(some 6), none, (.lenl (.s 5))⟩, ⟨(some 7), none, (.mks [(.int 0), (.int 0), (.int 0), (.str []), (.str []), (.e (.sl []))] (.s 6))⟩, ⟨(some 3), none, (.mov (.s 7))⟩]) (.seq (.seq (.reg [⟨(some 4), none, (.mov (.c (.int 0)))⟩]) (.block 0 (.loop (.seq (.seq (.reg [⟨(some 8), none, (.mov (.s 4))⟩, ⟨(some 9), none, (.mov (.s 0))⟩, ⟨(some 10), none, (.lenl (.s 9))⟩, ⟨(some 11), none, (.bin .lss (.s 8) (.s 10))⟩]) (.cond (.s 11) .skip (.exit 0))) (.seq (.block 1 (.reg [⟨(some 14), none, (.mov (.s 3))⟩, ⟨(some 15), none, (.mov (.s 4))⟩, ⟨(some 16), none, (.mov (.s 0))⟩, ⟨(some 17), none, (.mov (.s 4))⟩, ⟨(some 18), none, (.iadr none 6 (.s 16) (.s 17))⟩, ⟨(some 19), none, (.load true 6 (.s 18))⟩, ⟨(some 20), none, (.call 118 [(.s 19)])⟩, ⟨(some 21), none, (.iadr none 6 (.s 14) (.s 15))⟩, ⟨none, none, (.store true 6 (.s 21) (.s 20))⟩])) (.reg [⟨(some 12), none, (.mov (.s 4))⟩, ⟨(some 13), none, (.bin .add (.s 12) (.c (.int 1)))⟩, ⟨(some 4), none, (.mov (.s 13))⟩])))))) (.seq (.reg [⟨(some 22), none, (.mov (.s 3))⟩, ⟨(some 2), none, (.mov (.s 22))⟩]) .ret))))⟩
theorem p67 : prepF Try.prog 67 = some c67 := by kernel_rfl
def c68 : F := ⟨363, [(.tmp 4)], (.seq (.reg [⟨(some 2), none, (.box (.s 0))⟩, ⟨(some 4), none, (.mov (.c (.bool false)))⟩]) (.seq (.reg [⟨(some 9), none, (.fadr 3 (.s 2))⟩, ⟨(some 10), none, (.load false 1 (.s 9))⟩, ⟨(some 11), none, (.bin .eql (.s 10) (.c (.str [])))⟩, ⟨(some 12), none, (.mov (.s 11))⟩, ⟨(some 13), (some (12, true)), (.fadr 4 (.s 2))⟩, ⟨(some 14), (some (12, true)), (.load false 1 (.s 13))⟩, ⟨(some 15), (some (12, true)), (.bin .eql (.s 14) (.c (.str [])))⟩, ⟨(some 16), none, (.pick (.s 12) (.s 15) (.c (.bool false)))⟩, ⟨(some 5), none, (.mov (.s 16))⟩]) (.seq (.reg [⟨(some 17), none, (.mov (.s 1))⟩, ⟨(some 18), none, (.lenl (.s 17))⟩, ⟨(some 19), none, (.bin .eql (.s 18) (.c (.int 1)))⟩, ⟨(some 6), none, (.mov (.s 19))⟩]) (.seq (.reg [⟨(some 20), none, (.fadr 2 (.s 2))⟩, ⟨(some 21), none, (.load false 1 (.s 20))⟩, ⟨(some 22), none, (.bin .eql (.s 21) (.c (.int 0)))⟩, ⟨(some 23), none, (.mov (.s 22))⟩, ⟨(some 24), (some (23, false)), (.fadr 2 (.s 2))⟩, ⟨(some 25), (some (23, false)), (.load false 1 (.s 24))⟩, ⟨(some 26), (some (23, false)), (.bin .eql (.s 25) (.c (.int 1)))⟩, ⟨(some 27), none, (.pick (.s 23) (.c (.bool true)) (.s 26))⟩, ⟨(some 7), none, (.mov (.s 27))⟩]) (.seq (.seq (.reg [⟨(some 28), none, (.fadr 0 (.s 2))⟩, ⟨(some 29), none, (.load false 1 (.s 28))⟩]) (.block 0 (.seq (.reg [⟨(some 31), none, (.bin .eql (.s 29) (.c (.int 1)))⟩, ⟨(some 30), none, (.mov (.s 31))⟩]) (.cond (.s 30) (.seq (.reg [⟨(some 32), none, (.mov (.s 5))⟩, ⟨(some 33), none, (.mov (.s 32))⟩, ⟨(some 34), (some (33, true)), (.fadr 2 (.s 2))⟩, ⟨(some 35), (some (33, true)), (.load false 1 (.s 34))⟩, ⟨(some 36), (some (33, true)), (.bin .eql (.s 35) (.c (.int 0)))⟩, ⟨(some 37), none, (.pick (.s 33) (.s 36) (.c (.bool false)))⟩, ⟨(some 38), none, (.mov (.s 37))⟩, ⟨(some 39), (some (38, true)), (.mov (.s 1))⟩, ⟨(some 40), (some (38, true)), (.lenl (.s 39))⟩, ⟨(some 41), (some (38, true)), (.bin .eql (.s 40) (.c (.int 0)))⟩, ⟨(some 42), none, (.pick (.s 38) (.s 41) (.c (.bool false)))⟩, ⟨(some 43), none, (.mov (.s 42))⟩, ⟨(some 44), (some (43, true)), (.fadr 1 (.s 2))⟩, ⟨(some 45), (some (43, true)), (.load false 1 (.s 44))⟩, ⟨(some 46), (some (43, true)), (.bin .geq (.s 45) (.c (.int (-999999999999999999))))⟩, ⟨(some 47), none, (.pick (.s 43) (.s 46) (.c (.bool false)))⟩, ⟨(some 48), none, (.mov (.s 47))⟩, ⟨(some 49), (some (48, true)), (.fadr 1 (.s 2))⟩, ⟨(some 50), (some (48, true)), (.load false 1 (.s 49))⟩, ⟨(some 51), (some (48, true)), (.bin .leq (.s 50) (.c (.int 999999999999999999)))⟩, ⟨(some 52), none, (.pick (.s 48) (.s 51) (.c (.bool false)))⟩, ⟨(some 4), none, (.mov (.s 52))⟩]) .ret) (.seq (.reg [⟨(some 54), none, (.bin .eql (.s 29) (.c (.int 2)))⟩, ⟨(some 53), none, (.mov (.s 54))⟩]) (.cond (.s 53) (.seq (.reg [⟨(some 55), none, (.mov (.s 5))⟩, ⟨(some 56), none, (.mov (.s 55))⟩, ⟨(some 57), (some (56, true)), (.fadr 2 (.s 2))⟩, ⟨(some 58), (some (56, true)), (.load false 1 (.s 57))⟩, ⟨(some 59), (some (56, true)), (.bin .eql (.s 58) (.c (.int 0)))⟩, ⟨(some 60), none, (.pick (.s 56) (.s 59) (.c (.bool false)))⟩, ⟨(some 61), none, (.mov (.s 60))⟩, ⟨(some 62), (some (61, true)), (.fadr 1 (.s 2))⟩, ⟨(some 63), (some (61, true)), (.load false 1 (.s 62))⟩, ⟨(some 64), (some (61, true)), (.bin .eql (.s 63) (.c (.int 0)))⟩, ⟨(some 65), none, (.pick (.s 61) (.s 64) (.c (.bool false)))⟩, ⟨(some 66), none, (.mov (.s 65))⟩, ⟨(some 67), (some (66, true)), (.mov (.s 1))⟩, ⟨(some 68), (some (66, true)), (.lenl (.s 67))⟩, ⟨(some 69), (some (66, true)), (.bin .eql (.s 68) (.c (.int 0)))⟩, ⟨(some 70), none, (.pick (.s 66) (.s 69) (.c (.bool false)))⟩, ⟨(some 4), none, (.mov (.s 70))⟩]) .ret) (.seq (.reg [⟨(some 72), none, (.bin .eql (.s 29) (.c (.int 3)))⟩, ⟨(some 71), none, (.mov (.s 72))⟩]) (.cond (.s 71) (.seq (.reg [⟨(some 73), none, (.fadr 4 (.s 2))⟩, ⟨(some 74), none, (.load false 1 (.s 73))⟩, ⟨(some 75), none, (.bin .eql (.s 74) (.c (.str [])))⟩, ⟨(some 76), none, (.mov (.s 75))⟩, ⟨(some 77), (some (76, true)), (.fadr 3 (.s 2))⟩, ⟨(some 78), (some (76, true)), (.load false 1 (.s 77))⟩, ⟨(some 79), (some (76, true)), (.call 119 [(.s 78)])⟩, ⟨(some 80), none, (.pick (.s 76) (.s 79) (.c (.bool false)))⟩, ⟨(some 81), none, (.mov (.s 80))⟩, ⟨(some 82), (some (81, true)), (.fadr 2 (.s 2))⟩, ⟨(some 83), (some (81, true)), (.load false 1 (.s 82))⟩, ⟨(some 84), (some (81, true)), (.bin .eql (.s 83) (.c (.int 0)))⟩, ⟨(some 85), none, (.pick (.s 81) (.s 84) (.c (.bool false)))⟩, ⟨(some 86), none, (.mov (.s 85))⟩, ⟨(some 87), (some (86, true)), (.mov (.s 1))⟩, ⟨(some 88), (some (86, true)), (.lenl (.s 87))⟩, ⟨(some 89), (some (86, true)), (.bin .eql (.s 88) (.c (.int 0)))⟩, ⟨(some 90), none, (.pick (.s 86) (.s 89) (.c (.bool false)))⟩, ⟨(some 91), none, (.mov (.s 90))⟩, ⟨(some 92), (some (91, true)), (.fadr 1 (.s 2))⟩, ⟨(some 93), (some (91, true)), (.load false 1 (.s 92))⟩, ⟨(some 94), (some (91, true)), (.bin .geq (.s 93) (.c (.int 0)))⟩, ⟨(some 95), none, (.pick (.s 91) (.s 94) (.c (.bool false)))⟩, ⟨(some 96), none, (.mov (.s 95))⟩, ⟨(some 97), (some (96, true)), (.fadr 1 (.s 2))⟩, ⟨(some 98), (some (96, true)), (.load false 1 (.s 97))⟩, ⟨(some 99), (some (96, true)), (.bin .leq (.s 98) (.c (.int 999999999999999999)))⟩, ⟨(some 100), none, (.pick (.s 96) (.s 99) (.c (.bool false)))⟩, ⟨(some 4), none, (.mov (.s 100))⟩]) .ret) (.seq (.reg [⟨(some 102), none, (.bin .eql (.s 29) (.c (.int 4)))⟩, ⟨(some 101), none, (.mov (.s 102))⟩]) (.cond (.s 101) (.seq (.reg [⟨(some 8), none, (.mov (.c (.int 1)))⟩]) (.seq (.seq (.reg [⟨(some 103), none, (.fadr 2 (.s 2))⟩, ⟨(some 104), none, (.load false 1 (.s 103))⟩, ⟨(some 105), none, (.bin .eql (.s 104) (.c (.int 1)))⟩]) (.cond (.s 105) (.reg [⟨(some 8), none, (.mov (.c (.int 0)))⟩]) .skip)) (.seq (.reg [⟨(some 106), none, (.mov (.s 5))⟩, ⟨(some 107), none, (.mov (.s 106))⟩, ⟨(some 108), (some (107, true)), (.fadr 2 (.s 2))⟩, ⟨(some 109), (some (107, true)), (.load false 1 (.s 108))⟩, ⟨(some 110), (some (107, true)), (.bin .geq (.s 109) (.c (.int 1)))⟩, ⟨(some 111), none, (.pick (.s 107) (.s 110) (.c (.bool false)))⟩, ⟨(some 112), none, (.mov (.s 111))⟩, ⟨(some 113), (some (112, true)), (.fadr 2 (.s 2))⟩, ⟨(some 114), (some (112, true)), (.load false 1 (.s 113))⟩, ⟨(some 115), (some (112, true)), (.bin .leq (.s 114) (.c (.int 4)))⟩, ⟨(some 116), none, (.pick (.s 112) (.s 115) (.c (.bool false)))⟩, ⟨(some 117), none, (.mov (.s 116))⟩, ⟨(some 118), (some (117, true)), (.fadr 1 (.s 2))⟩, ⟨(some 119), (some (117, true)), (.load false 1 (.s 118))⟩, ⟨(some 120), (some (117, true)), (.mov (.s 8))⟩, ⟨(some 121), (some (117, true)), (.bin .eql (.s 119) (.s 120))⟩, ⟨(some 122), none, (.pick (.s 117) (.s 121) (.c (.bool false)))⟩, ⟨(some 123), none, (.mov (.s 122))⟩, ⟨(some 124), (some (123, true)), (.load true 6 (.s 2))⟩, ⟨(some 125), (some (123, true)), (.mov (.s 1))⟩, ⟨(some 126), (some (123, true)), (.call 120 [(.s 124), (.s 125)])⟩, ⟨(some 127), none, (.pick (.s 123) (.s 126) (.c (.bool false)))⟩, ⟨(some 4), none, (.mov (.s 127))⟩]) .ret))) (.seq (.reg [⟨(some 129), none, (.bin .eql (.s 29) (.c (.int 5)))⟩, ⟨(some 128), none, (.mov (.s 129))⟩]) (.cond (.s 128) (.seq (.reg [⟨(some 130), none, (.fadr 3 (.s 2))⟩, ⟨(some 131), none, (.load false 1 (.s 130))⟩, ⟨(some 132), none, (.call 119 [(.s 131)])⟩, ⟨(some 133), none, (.mov (.s 132))⟩, ⟨(some 134), (some (133, true)), (.fadr 4 (.s 2))⟩, ⟨(some 135), (some (133, true)), (.load false 1 (.s 134))⟩, ⟨(some 136), (some (133, true)), (.call 119 [(.s 135)])⟩, ⟨(some 137), none, (.pick (.s 133) (.s 136) (.c (.bool false)))⟩, ⟨(some 138), none, (.mov (.s 137))⟩, ⟨(some 139), (some (138, true)), (.fadr 1 (.s 2))⟩, ⟨(some 140), (some (138, true)), (.load false 1 (.s 139))⟩, ⟨(some 141), (some (138, true)), (.bin .eql (.s 140) (.c (.int 0)))⟩, ⟨(some 142), none, (.pick (.s 138) (.s 141) (.c (.bool false)))⟩, ⟨(some 143), none, (.mov (.s 142))⟩, ⟨(some 144), (some (143, true)), (.fadr 2 (.s 2))⟩, ⟨(some 145), (some (143, true)), (.load false 1 (.s 144))⟩, ⟨(some 146), (some (143, true)), (.bin .eql (.s 145) (.c (.int 0)))⟩, ⟨(some 147), none, (.pick (.s 143) (.s 146) (.c (.bool false)))⟩, ⟨(some 148), none, (.mov (.s 147))⟩, ⟨(some 149), (some (148, true)), (.mov (.s 1))⟩, ⟨(some 150), (some (148, true)), (.lenl (.s 149))⟩, ⟨(some 151), (some (148, true)), (.bin .eql (.s 150) (.c (.int 0)))⟩, ⟨(some 152), none, (.pick (.s 148) (.s 151) (.c (.bool false)))⟩, ⟨(some 4), none, (.mov (.s 152))⟩]) .ret) (.seq (.reg [⟨(some 154), none, (.bin .eql (.s 29) (.c (.int 6)))⟩, ⟨(some 153), none, (.mov (.s 154))⟩]) (.cond (.s 153) (.seq (.reg [⟨(some 155), none, (.mov (.s 5))⟩, ⟨(some 156), none, (.mov (.s 155))⟩, ⟨(some 157), (some (156, true)), (.mov (.s 7))⟩, ⟨(some 158), none, (.pick (.s 156) (.s 157) (.c (.bool false)))⟩, ⟨(some 159), none, (.mov (.s 158))⟩, ⟨(some 160), (some (159, true)), (.fadr 1 (.s 2))⟩, ⟨(some 161), (some (159, true)), (.load false 1 (.s 160))⟩, ⟨(some 162), (some (159, true)), (.bin .geq (.s 161) (.c (.int 1)))⟩, ⟨(some 163), none, (.pick (.s 159) (.s 162) (.c (.bool false)))⟩, ⟨(some 164), none, (.mov (.s 163))⟩, ⟨(some 165), (some (164, true)), (.load true 6 (.s 2))⟩, ⟨(some 166), (some (164, true)), (.mov (.s 1))⟩, ⟨(some 167), (some (164, true)), (.call 120 [(.s 165), (.s 166)])⟩, ⟨(some 168), none, (.pick (.s 164) (.s 167) (.c (.bool false)))⟩, ⟨(some 4), none, (.mov (.s 168))⟩]) .ret) (.seq (.reg [⟨(some 170), none, (.bin .eql (.s 29) (.c (.int 7)))⟩, ⟨(some 169), none, (.mov (.s 170))⟩]) (.cond (.s 169) (.seq (.reg [⟨(some 171), none, (.mov (.s 5))⟩, ⟨(some 172), none, (.mov (.s 171))⟩, ⟨(some 173), (some (172, true)), (.fadr 1 (.s 2))⟩, ⟨(some 174), (some (172, true)), (.load false 1 (.s 173))⟩, ⟨(some 175), (some (172, true)), (.bin .eql (.s 174) (.c (.int 0)))⟩, ⟨(some 176), none, (.pick (.s 172) (.s 175) (.c (.bool false)))⟩, ⟨(some 177), none, (.mov (.s 176))⟩, ⟨(some 178), (some (177, true)), (.fadr 2 (.s 2))⟩, ⟨(some 179), (some (177, true)), (.load false 1 (.s 178))⟩, ⟨(some 180), (some (177, true)), (.bin .eql (.s 179) (.c (.int 0)))⟩, ⟨(some 181), none, (.pick (.s 177) (.s 180) (.c (.bool false)))⟩, ⟨(some 182), none, (.mov (.s 181))⟩, ⟨(some 183), (some (182, true)), (.mov (.s 1))⟩, ⟨(some 184), (some (182, true)), (.call 121 [(.s 183), (.c (.int 2)), (.c (.fn (.func 122) [] []))])⟩, ⟨(some 185), none, (.pick (.s 182) (.s 184) (.c (.bool false)))⟩, ⟨(some 4), none, (.mov (.s 185))⟩]) .ret) (.seq (.reg [⟨(some 187), none, (.bin .eql (.s 29) (.c (.int 8)))⟩, ⟨(some 186), none, (.mov (.s 187))⟩]) (.cond (.s 186) (.seq (.reg [⟨(some 188), none, (.mov (.s 5))⟩, ⟨(some 189), none, (.mov (.s 188))⟩, ⟨(some 190), (some (189, true)), (.fadr 1 (.s 2))⟩, ⟨(some 191), (some (189, true)), (.load false 1 (.s 190))⟩, ⟨(some 192), (some (189, true)), (.bin .eql (.s 191) (.c (.int 0)))⟩, ⟨(some 193), none, (.pick (.s 189) (.s 192) (.c (.bool false)))⟩, ⟨(some 194), none, (.mov (.s 193))⟩, ⟨(some 195), (some (194, true)), (.fadr 2 (.s 2))⟩, ⟨(some 196), (some (194, true)), (.load false 1 (.s 195))⟩, ⟨(some 197), (some (194, true)), (.bin .geq (.s 196) (.c (.int 1)))⟩, ⟨(some 198), none, (.pick (.s 194) (.s 197) (.c (.bool false)))⟩, ⟨(some 199), none, (.mov (.s 198))⟩, ⟨(some 200), (some (199, true)), (.fadr 2 (.s 2))⟩, ⟨(some 201), (some (199, true)), (.load false 1 (.s 200))⟩, ⟨(some 202), (some (199, true)), (.bin .leq (.s 201) (.c (.int 6)))⟩, ⟨(some 203), none, (.pick (.s 199) (.s 202) (.c (.bool false)))⟩, ⟨(some 204), none, (.mov (.s 203))⟩, ⟨(some 205), (some (204, true)), (.mov (.s 1))⟩, ⟨(some 206), (some (204, true)), (.lenl (.s 205))⟩, ⟨(some 207), (some (204, true)), (.bin .eql (.s 206) (.c (.int 2)))⟩, ⟨(some 208), none, (.pick (.s 204) (.s 207) (.c (.bool false)))⟩, ⟨(some 209), none, (.mov (.s 208))⟩, ⟨(some 210), (some (209, true)), (.mov (.s 1))⟩, ⟨(some 211), (some (209, true)), (.call 121 [(.s 210), (.c (.int 2)), (.c (.fn (.func 123) [] []))])⟩, ⟨(some 212), none, (.pick (.s 209) (.s 211) (.c (.bool false)))⟩, ⟨(some 4), none, (.mov (.s 212))⟩]) .ret) (.seq (.reg [⟨(some 214), none, (.bin .eql (.s 29) (.c (.int 9)))⟩, ⟨(some 213), none, (.mov (.s 214))⟩]) (.cond (.s 213) (.seq (.reg [⟨(some 215), none, (.mov (.s 5))⟩, ⟨(some 216), none, (.mov (.s 215))⟩, ⟨(some 217), (some (216, true)), (.fadr 1 (.s 2))⟩, ⟨(some 218), (some (216, true)), (.load false 1 (.s 217))⟩, ⟨(some 219), (some (216, true)), (.bin .eql (.s 218) (.c (.int 0)))⟩, ⟨(some 220), none, (.pick (.s 216) (.s 219) (.c (.bool false)))⟩, ⟨(some 221), none, (.mov (.s 220))⟩, ⟨(some 222), (some (221, true)), (.mov (.s 7))⟩, ⟨(some 223), none, (.pick (.s 221) (.s 222) (.c (.bool false)))⟩, ⟨(some 224), none, (.mov (.s 223))⟩, ⟨(some 225), (some (224, true)), (.mov (.s 6))⟩, ⟨(some 226), none, (.pick (.s 224) (.s 225) (.c (.bool false)))⟩, ⟨(some 227), none, (.mov (.s 226))⟩, ⟨(some 228), (some (227, true)), (.mov (.s 1))⟩, ⟨(some 229), (some (227, true)), (.iadr none 1 (.s 228) (.c (.int 0)))⟩, ⟨(some 230), (some (227, true)), (.load false 1 (.s 229))⟩, ⟨(some 231), (some (227, true)), (.call 123 [(.s 230)])⟩, ⟨(some 232), none, (.pick (.s 227) (.s 231) (.c (.bool false)))⟩, ⟨(some 4), none, (.mov (.s 232))⟩]) .ret) (.seq (.reg [⟨(some 234), none, (.bin .eql (.s 29) (.c (.int 10)))⟩, ⟨(some 233), none, (.mov (.s 234))⟩]) (.cond (.s 233) (.seq (.reg [⟨(some 235), none, (.mov (.s 5))⟩, ⟨(some 236), none, (.mov (.s 235))⟩, ⟨(some 237), (some (236, true)), (.fadr 1 (.s 2))⟩, ⟨(some 238), (some (236, true)), (.load false 1 (.s 237))⟩, ⟨(some 239), (some (236, true)), (.bin .eql (.s 238) (.c (.int 0)))⟩, ⟨(some 240), none, (.pick (.s 236) (.s 239) (.c (.bool false)))⟩, ⟨(some 241), none, (.mov (.s 240))⟩, ⟨(some 242), (some (241, true)), (.fadr 2 (.s 2))⟩, ⟨(some 243), (some (241, true)), (.load false 1 (.s 242))⟩, ⟨(some 244), (some (241, true)), (.bin .eql (.s 243) (.c (.int 0)))⟩, ⟨(some 245), none, (.pick (.s 241) (.s 244) (.c (.bool false)))⟩, ⟨(some 246), none, (.mov (.s 245))⟩, ⟨(some 247), (some (246, true)), (.mov (.s 6))⟩, ⟨(some 248), none, (.pick (.s 246) (.s 247) (.c (.bool false)))⟩, ⟨(some 249), none, (.mov (.s 248))⟩, ⟨(some 250), (some (249, true)), (.mov (.s 1))⟩, ⟨(some 251), (some (249, true)), (.iadr none 1 (.s 250) (.c (.int 0)))⟩, ⟨(some 252), (some (249, true)), (.load false 1 (.s 251))⟩, ⟨(some 253), (some (249, true)), (.call 69 [(.s 252)])⟩, ⟨(some 254), none, (.pick (.s 249) (.s 253) (.c (.bool false)))⟩, ⟨(some 4), none, (.mov (.s 254))⟩]) .ret) (.seq (.reg [⟨(some 256), none, (.bin .eql (.s 29) (.c (.int 11)))⟩, ⟨(some 255), none, (.mov (.s 256))⟩]) (.cond (.s 255) (.seq (.reg [⟨(some 257), none, (.mov (.s 5))⟩, ⟨(some 258), none, (.mov (.s 257))⟩, ⟨(some 259), (some (258, true)), (.fadr 1 (.s 2))⟩, ⟨(some 260), (some (258, true)), (.load false 1 (.s 259))⟩, ⟨(some 261), (some (258, true)), (.bin .eql (.s 260) (.c (.int 0)))⟩, ⟨(some 262), none, (.pick (.s 258) (.s 261) (.c (.bool false)))⟩, ⟨(some 263), none, (.mov (.s 262))⟩, ⟨(some 264), (some (263, true)), (.mov (.s 7))⟩, ⟨(some 265), none, (.pick (.s 263) (.s 264) (.c (.bool false)))⟩, ⟨(some 266), none, (.mov (.s 265))⟩, ⟨(some 267), (some (266, true)), (.mov (.s 1))⟩, ⟨(some 268), (some (266, true)), (.lenl (.s 267))⟩, ⟨(some 269), (some (266, true)), (.bin .eql (.s 268) (.c (.int 2)))⟩, ⟨(some 270), none, (.pick (.s 266) (.s 269) (.c (.bool false)))⟩, ⟨(some 271), none, (.mov (.s 270))⟩, ⟨(some 272), (some (271, true)), (.mov (.s 1))⟩, ⟨(some 273), (some (271, true)), (.iadr none 1 (.s 272) (.c (.int 0)))⟩, ⟨(some 274), (some (271, true)), (.load false 1 (.s 273))⟩, ⟨(some 275), (some (271, true)), (.call 123 [(.s 274)])⟩, ⟨(some 276), none, (.pick (.s 271) (.s 275) (.c (.bool false)))⟩, ⟨(some 277), none, (.mov (.s 276))⟩, ⟨(some 278), (some (277, true)), (.mov (.s 1))⟩, ⟨(some 279), (some (277, true)), (.iadr none 1 (.s 278) (.c (.int 1)))⟩, ⟨(some 280), (some (277, true)), (.load false 1 (.s 279))⟩, ⟨(some 281), (some (277, true)), (.call 69 [(.s 280)])⟩, ⟨(some 282), none, (.pick (.s 277) (.s 281) (.c (.bool false)))⟩, ⟨(some 4), none, (.mov (.s 282))⟩]) .ret) (.seq (.reg [⟨(some 284), none, (.bin .eql (.s 29) (.c (.int 12)))⟩, ⟨(some 283), none, (.mov (.s 284))⟩]) (.cond (.s 283) (.seq (.reg [⟨(some 285), none, (.mov (.s 5))⟩, ⟨(some 286), none, (.mov (.s 285))⟩, ⟨(some 287), (some (286, true)), (.fadr 2 (.s 2))⟩, ⟨(some 288), (some (286, true)), (.load false 1 (.s 287))⟩, ⟨(some 289), (some (286, true)), (.bin .geq (.s 288) (.c (.int 1)))⟩, ⟨(some 290), none, (.pick (.s 286) (.s 289) (.c (.bool false)))⟩, ⟨(some 291), none, (.mov (.s 290))⟩, ⟨(some 292), (some (291, true)), (.fadr 2 (.s 2))⟩, ⟨(some 293), (some (291, true)), (.load false 1 (.s 292))⟩, ⟨(some 294), (some (291, true)), (.bin .leq (.s 293) (.c (.int 6)))⟩, ⟨(some 295), none, (.pick (.s 291) (.s 294) (.c (.bool false)))⟩, ⟨(some 296), none, (.mov (.s 295))⟩, ⟨(some 297), (some (296, true)), (.fadr 1 (.s 2))⟩, ⟨(some 298), (some (296, true)), (.load false 1 (.s 297))⟩, ⟨(some 299), (some (296, true)), (.bin .eql (.s 298) (.c (.int 1)))⟩, ⟨(some 300), (some (296, true)), (.mov (.s 299))⟩, ⟨(some 301), (some (300, false)), (.fadr 1 (.s 2))⟩, ⟨(some 302), (some (300, false)), (.load false 1 (.s 301))⟩, ⟨(some 303), (some (300, false)), (.bin .eql (.s 302) (.c (.int 2)))⟩, ⟨(some 304), (some (296, true)), (.pick (.s 300) (.c (.bool true)) (.s 303))⟩, ⟨(some 305), none, (.pick (.s 296) (.s 304) (.c (.bool false)))⟩, ⟨(some 306), none, (.mov (.s 305))⟩, ⟨(some 307), (some (306, true)), (.mov (.s 1))⟩, ⟨(some 308), (some (306, true)), (.lenl (.s 307))⟩, ⟨(some 309), (some (306, true)), (.bin .eql (.s 308) (.c (.int 2)))⟩, ⟨(some 310), none, (.pick (.s 306) (.s 309) (.c (.bool false)))⟩, ⟨(some 311), none, (.mov (.s 310))⟩, ⟨(some 312), (some (311, true)), (.mov (.s 1))⟩, ⟨(some 313), (some (311, true)), (.iadr none 1 (.s 312) (.c (.int 0)))⟩, ⟨(some 314), (some (311, true)), (.load false 1 (.s 313))⟩, ⟨(some 315), (some (311, true)), (.call 123 [(.s 314)])⟩, ⟨(some 316), none, (.pick (.s 311) (.s 315) (.c (.bool false)))⟩, ⟨(some 317), none, (.mov (.s 316))⟩, ⟨(some 318), (some (317, true)), (.mov (.s 1))⟩, ⟨(some 319), (some (317, true)), (.iadr none 1 (.s 318) (.c (.int 1)))⟩, ⟨(some 320), (some (317, true)), (.load false 1 (.s 319))⟩, ⟨(some 321), (some (317, true)), (.call 69 [(.s 320)])⟩, ⟨(some 322), none, (.pick (.s 317) (.s 321) (.c (.bool false)))⟩, ⟨(some 4), none, (.mov (.s 322))⟩]) .ret) (.seq (.reg [⟨(some 324), none, (.bin .eql (.s 29) (.c (.int 13)))⟩, ⟨(some 323), none, (.mov (.s 324))⟩]) (.cond (.s 323) (.seq (.reg [⟨(some 325), none, (.mov (.s 5))⟩, ⟨(some 326), none, (.mov (.s 325))⟩, ⟨(some 327), (some (326, true)), (.fadr 1 (.s 2))⟩, ⟨(some 328), (some (326, true)), (.load false 1 (.s 327))⟩, ⟨(some 329), (some (326, true)), (.bin .eql (.s 328) (.c (.int 0)))⟩, ⟨(some 330), none, (.pick (.s 326) (.s 329) (.c (.bool false)))⟩, ⟨(some 331), none, (.mov (.s 330))⟩, ⟨(some 332), (some (331, true)), (.fadr 2 (.s 2))⟩, ⟨(some 333), (some (331, true)), (.load false 1 (.s 332))⟩, ⟨(some 334), (some (331, true)), (.bin .eql (.s 333) (.c (.int 0)))⟩, ⟨(some 335), none, (.pick (.s 331) (.s 334) (.c (.bool false)))⟩, ⟨(some 336), none, (.mov (.s 335))⟩, ⟨(some 337), (some (336, true)), (.mov (.s 6))⟩, ⟨(some 338), none, (.pick (.s 336) (.s 337) (.c (.bool false)))⟩, ⟨(some 339), none, (.mov (.s 338))⟩, ⟨(some 340), (some (339, true)), (.mov (.s 1))⟩, ⟨(some 341), (some (339, true)), (.iadr none 1 (.s 340) (.c (.int 0)))⟩, ⟨(some 342), (some (339, true)), (.load false 1 (.s 341))⟩, ⟨(some 343), (some (339, true)), (.call 124 [(.s 342)])⟩, ⟨(some 344), none, (.pick (.s 339) (.s 343) (.c (.bool false)))⟩, ⟨(some 4), none, (.mov (.s 344))⟩]) .ret) (.seq (.seq (.reg [⟨(some 346), none, (.bin .eql (.s 29) (.c (.int 14)))⟩, ⟨(some 345), none, (.mov (.s 346))⟩]) (.cond (.s 345) .skip (.reg [⟨(some 347), none, (.bin .eql (.s 29) (.c (.int 15)))⟩, ⟨(some 345), none, (.mov (.s 347))⟩]))) (.cond (.s 345) (.seq (.reg [⟨(some 348), none, (.mov (.s 5))⟩, ⟨(some 349), none, (.mov (.s 348))⟩, ⟨(some 350), (some (349, true)), (.fadr 1 (.s 2))⟩, ⟨(some 351), (some (349, true)), (.load false 1 (.s 350))⟩, ⟨(some 352), (some (349, true)), (.bin .eql (.s 351) (.c (.int 0)))⟩, ⟨(some 353), none, (.pick (.s 349) (.s 352) (.c (.bool false)))⟩, ⟨(some 354), none, (.mov (.s 353))⟩, ⟨(some 355), (some (354, true)), (.fadr 2 (.s 2))⟩, ⟨(some 356), (some (354, true)), (.load false 1 (.s 355))⟩, ⟨(some 357), (some (354, true)), (.bin .eql (.s 356) (.c (.int 0)))⟩, ⟨(some 358), none, (.pick (.s 354) (.s 357) (.c (.bool false)))⟩, ⟨(some 359), none, (.mov (.s 358))⟩, ⟨(some 360), (some (359, true)), (.mov (.s 1))⟩, ⟨(some 361), (some (359, true)), (.call 121 [(.s 360), (.c (.int 2)), (.c (.fn (.func 124) [] []))])⟩, ⟨(some 362), none, (.pick (.s 359) (.s 361) (.c (.bool false)))⟩, ⟨(some 4), none, (.mov (.s 362))⟩]) .ret) .skip)))))))))))))))))))))))))))))) (.seq (.reg [⟨(some 4), none, (.mov (.c (.bool false)))⟩]) .ret))))))⟩
theorem p68 : prepF Try.prog 68 = some c68 := by kernel_rfl
def c69 : F := ⟨9, [(.tmp 2)], (.seq (.reg [⟨(some 2), none, (.mov (.c (.bool false)))⟩]) (.seq (.reg [⟨(some 3), none, (.mov (.s 0))⟩, ⟨(some 4), none, (.bin .eql (.s 3) (.c (.int 6)))⟩, ⟨(some 5), none, (.mov (.s 4))⟩, ⟨(some 6), (some (5, false)), (.mov (.s 0))⟩, ⟨(some 7), (some (5, false)), (.bin .eql (.s 6) (.c (.int 7)))⟩, ⟨(some 8), none, (.pick (.s 5) (.c (.bool true)) (.s 7))⟩, ⟨(some 2), none, (.mov (.s 8))⟩]) .ret))⟩
theorem p69 : prepF Try.prog 69 = some c69 := by kernel_rfl
def c70 : F := ⟨27, [(.tmp 4)], (.seq (.reg [⟨(some 4), none, (.mov (.c (.bool false)))⟩]) (.seq (.seq (.reg [⟨(some 6), none, (.mov (.s 0))⟩, ⟨(some 7), none, (.lenl (.s 6))⟩, ⟨(some 8), none, (.mov (.s 1))⟩, ⟨(some 9), none, (.lenl (.s 8))⟩, ⟨(some 10), none, (.bin .neq (.s 7) (.s 9))⟩]) (.cond (.s 10) (.seq (.reg [⟨(some 4), none, (.mov (.c (.bool false)))⟩]) .ret) .skip)) (.seq (.seq (.reg [⟨(some 5), none, (.mov (.c (.int 0)))⟩]) (.block 0 (.loop (.seq (.seq (.reg [⟨(some 11), none, (.mov (.s 5))⟩, ⟨(some 12), none, (.mov (.s 0))⟩, ⟨(some 13), none, (.lenl (.s 12))⟩, ⟨(some 14), none, (.bin .lss (.s 11) (.s 13))⟩]) (.cond (.s 14) .skip (.exit 0))) (.seq (.block 1 (.seq (.dreg [⟨⟨(some 17), none, (.mov (.s 0))⟩, [], [0]⟩, ⟨⟨(some 18), none, (.mov (.s 5))⟩, [0], [5]⟩, ⟨⟨(some 19), none, (.iadr none 6 (.s 17) (.s 18))⟩, [], [17, 18]⟩, ⟨⟨(some 20), none, (.load true 6 (.s 19))⟩, [], [19]⟩, ⟨⟨(some 21), none, (.mov (.s 1))⟩, [0, 1, 2, 3], [1]⟩, ⟨⟨(some 22), none, (.mov (.s 5))⟩, [0, 1, 2, 3, 4], [5]⟩, ⟨⟨(some 23), none, (.iadr none 6 (.s 21) (.s 22))⟩, [0, 1, 2, 3], [21, 22]⟩, ⟨⟨(some 24), none, (.load true 6 (.s 23))⟩, [0, 1, 2, 3], [23]⟩, ⟨⟨(some 25), none, (.call 125 [(.s 20), (.s 24)])⟩, [], [20, 24]⟩, ⟨⟨(some 26), none, (.un .not (.s 25))⟩, [], [25]⟩]) (.cond (.s 26) (.seq (.reg [⟨(some 4), none, (.mov (.c (.bool false)))⟩]) .ret) .skip))) (.reg [⟨(some 15), none, (.mov (.s 5))⟩, ⟨(some 16), none, (.bin .add (.s 15) (.c (.int 1)))⟩, ⟨(some 5), none, (.mov (.s 16))⟩])))))) (.seq (.reg [⟨(some 4), none, (.mov (.c (.bool true)))⟩]) .ret))))⟩
theorem p70 : prepF Try.prog 70 = some c70 := by kernel_rfl
def c112 : F := ⟨26, [(.tmp 4)], (.seq (.reg [⟨(some 2), none, (.box (.s 0))⟩, ⟨(some 4), none, (.mov (.c (.int 0)))⟩]) (.seq (.reg [⟨(some 5), none, (.mov (.s 1))⟩, ⟨(some 6), none, (.fadr 3 (.s 2))⟩, ⟨(some 7), none, (.load false 1 (.s 6))⟩, ⟨(some 8), none, (.lens (.s 7))⟩, ⟨(some 9), none, (.bin .sub (.s 5) (.s 8))⟩, ⟨(some 1), none, (.mov (.s 9))⟩]) (.seq (.seq (.reg [⟨(some 10), none, (.mov (.s 1))⟩, ⟨(some 11), none, (.bin .lss (.s 10) (.c (.int 0)))⟩]) (.cond (.s 11) (.seq (.reg [⟨(some 4), none, (.mov (.c (.int (-1))))⟩]) .ret) .skip)) (.seq (.reg [⟨(some 12), none, (.mov (.s 1))⟩, ⟨(some 13), none, (.fadr 4 (.s 2))⟩, ⟨(some 14), none, (.load false 1 (.s 13))⟩, ⟨(some 15), none, (.lens (.s 14))⟩, ⟨(some 16), none, (.bin .sub (.s 12) (.s 15))⟩, ⟨(some 1), none, (.mov (.s 16))⟩]) (.seq (.seq (.reg [⟨(some 17), none, (.mov (.s 1))⟩, ⟨(some 18), none, (.bin .lss (.s 17) (.c (.int 0)))⟩]) (.cond (.s 18) (.seq (.reg [⟨(some 4), none, (.mov (.c (.int (-1))))⟩]) .ret) .skip)) (.seq (.reg [⟨(some 19), none, (.fadr 5 (.s 2))⟩, ⟨(some 20), none, (.load false 1 (.s 19))⟩, ⟨(some 21), none, (.mov (.s 1))⟩, ⟨(some 22), none, (.call 161 [(.s 20), (.s 21)])⟩, ⟨(some 1), none, (.mov (.s 22))⟩]) (.seq (.seq (.reg [⟨(some 23), none, (.mov (.s 1))⟩, ⟨(some 24), none, (.bin .lss (.s 23) (.c (.int 0)))⟩]) (.cond (.s 24) (.seq (.reg [⟨(some 4), none, (.mov (.c (.int (-1))))⟩]) .ret) .skip)) (.seq (.reg [⟨(some 25), none, (.mov (.s 1))⟩, ⟨(some 4), none, (.mov (.s 25))⟩]) .ret))))))))⟩
theorem p112 : prepF Try.prog 112 = some c112 := by kernel_rfl
def c113 : F := ⟨45, [(.tmp 4)], (.seq (.reg [⟨(some 4), none, (.mov (.c (.str [])))⟩]) (.seq (.reg [⟨(some 5), none, (.mov (.c (.str [])))⟩]) (.seq (.seq (.reg [⟨(some 6), none, (.mov (.c (.int 0)))⟩]) (.block 0 (.loop (.seq (.seq (.reg [⟨(some 8), none, (.mov (.s 6))⟩, ⟨(some 9), none, (.mov (.s 0))⟩, ⟨(some 10), none, (.mov (.s 1))⟩, ⟨(some 11), none, (.iadr none 6 (.s 9) (.s 10))⟩, ⟨(some 12), none, (.fadr 5 (.s 11))⟩, ⟨(some 13), none, (.load false 1 (.s 12))⟩, ⟨(some 14), none, (.lenl (.s 13))⟩, ⟨(some 15), none, (.bin .lss (.s 8) (.s 14))⟩]) (.cond (.s 15) .skip (.exit 0))) (.seq (.block 1 (.seq (.reg [⟨(some 18), none, (.mov (.s 0))⟩, ⟨(some 19), none, (.mov (.s 0))⟩, ⟨(some 20), none, (.mov (.s 1))⟩, ⟨(some 21), none, (.iadr none 6 (.s 19) (.s 20))⟩, ⟨(some 22), none, (.fadr 5 (.s 21))⟩, ⟨(some 23), none, (.load false 1 (.s 22))⟩, ⟨(some 24), none, (.mov (.s 6))⟩, ⟨(some 25), none, (.iadr none 1 (.s 23) (.s 24))⟩, ⟨(some 26), none, (.load false 1 (.s 25))⟩, ⟨(some 27), none, (.iadr none 6 (.s 18) (.s 26))⟩, ⟨(some 28), none, (.fadr 0 (.s 27))⟩, ⟨(some 29), none, (.load false 1 (.s 28))⟩, ⟨(some 7), none, (.mov (.s 29))⟩]) (.seq (.reg [⟨(some 30), none, (.mov (.s 7))⟩, ⟨(some 31), none, (.call 162 [(.s 30)])⟩]) (.cond (.s 31) (.reg [⟨(some 32), none, (.mov (.s 5))⟩, ⟨(some 33), none, (.bin .add (.s 32) (.c (.str [115])))⟩, ⟨(some 5), none, (.mov (.s 33))⟩]) (.seq (.reg [⟨(some 34), none, (.mov (.s 7))⟩, ⟨(some 35), none, (.bin .eql (.s 34) (.c (.int 5)))⟩]) (.cond (.s 35) (.reg [⟨(some 36), none, (.mov (.s 5))⟩, ⟨(some 37), none, (.bin .add (.s 36) (.c (.str [102])))⟩, ⟨(some 5), none, (.mov (.s 37))⟩]) (.seq (.reg [⟨(some 38), none, (.mov (.s 7))⟩, ⟨(some 39), none, (.call 66 [(.s 38)])⟩]) (.cond (.s 39) (.reg [⟨(some 40), none, (.mov (.s 5))⟩, ⟨(some 41), none, (.bin .add (.s 40) (.c (.str [113])))⟩, ⟨(some 5), none, (.mov (.s 41))⟩]) (.reg [⟨(some 42), none, (.mov (.s 5))⟩, ⟨(some 43), none, (.bin .add (.s 42) (.c (.str [99])))⟩, ⟨(some 5), none, (.mov (.s 43))⟩]))))))))) (.reg [⟨(some 16), none, (.mov (.s 6))⟩, ⟨(some 17), none, (.bin .add (.s 16) (.c (.int 1)))⟩, ⟨(some 6), none, (.mov (.s 17))⟩])))))) (.seq (.reg [⟨(some 44), none, (.mov (.s 5))⟩, ⟨(some 4), none, (.mov (.s 44))⟩]) .ret))))⟩
theorem p113 : prepF Try.prog 113 = some c113 := by kernel_rfl
def c114 : F := ⟨9, [(.tmp 2)], (.seq (.reg [⟨(some 2), none, (.mov (.c (.bool false)))⟩]) (.seq (.reg [⟨(some 3), none, (.mov (.s 0))⟩, ⟨(some 4), none, (.bin .gtr (.s 3) (.c (.int (-1000000000000000000))))⟩, ⟨(some 5), none, (.mov (.s 4))⟩, ⟨(some 6), (some (5, true)), (.mov (.s 0))⟩, ⟨(some 7), (some (5, true)), (.bin .lss (.s 6) (.c (.int 1000000000000000000)))⟩, ⟨(some 8), none, (.pick (.s 5) (.s 7) (.c (.bool false)))⟩, ⟨(some 2), none, (.mov (.s 8))⟩]) .ret))⟩
theorem p114 : prepF Try.prog 114 = some c114 := by kernel_rfl
def c116 : F := ⟨41, [(.tmp 4)], (.seq (.reg [⟨(some 4), none, (.mov (.c (.bool false)))⟩]) (.seq (.seq (.reg [⟨(some 6), none, (.mov (.s 1))⟩, ⟨(some 7), none, (.bin .lss (.s 6) (.c (.int 0)))⟩, ⟨(some 8), none, (.mov (.s 7))⟩, ⟨(some 9), (some (8, false)), (.mov (.s 1))⟩, ⟨(some 10), (some (8, false)), (.mov (.s 0))⟩, ⟨(some 11), (some (8, false)), (.lens (.s 10))⟩, ⟨(some 12), (some (8, false)), (.bin .gtr (.s 9) (.s 11))⟩, ⟨(some 13), none, (.pick (.s 8) (.c (.bool true)) (.s 12))⟩]) (.cond (.s 13) (.seq (.reg [⟨(some 4), none, (.mov (.c (.bool false)))⟩]) .ret) .skip)) (.seq (.reg [⟨(some 14), none, (.mov (.s 0))⟩, ⟨(some 15), none, (.mov (.s 1))⟩, ⟨(some 16), none, (.slstr (.s 14) (some (.s 15)) none)⟩, ⟨(some 5), none, (.mov (.s 16))⟩]) (.seq (.seq (.reg [⟨(some 17), none, (.mov (.s 5))⟩, ⟨(some 18), none, (.lens (.s 17))⟩, ⟨(some 19), none, (.bin .gtr (.s 18) (.c (.int 0)))⟩, ⟨(some 20), none, (.mov (.s 19))⟩, ⟨(some 21), (some (20, true)), (.mov (.s 5))⟩, ⟨(some 22), (some (20, true)), (.mov (.s 5))⟩, ⟨(some 23), (some (20, true)), (.lens (.s 22))⟩, ⟨(some 24), (some (20, true)), (.bin .sub (.s 23) (.c (.int 1)))⟩, ⟨(some 25), (some (20, true)), (.ixs (.s 21) (.s 24))⟩, ⟨(some 26), (some (20, true)), (.bin .eql (.s 25) (.c (.e (.v (.int .u8 99)))))⟩, ⟨(some 27), none, (.pick (.s 20) (.s 26) (.c (.bool false)))⟩]) (.cond (.s 27) (.reg [⟨(some 28), none, (.mov (.s 5))⟩, ⟨(some 29), none, (.mov (.s 5))⟩, ⟨(some 30), none, (.lens (.s 29))⟩, ⟨(some 31), none, (.bin .sub (.s 30) (.c (.int 1)))⟩, ⟨(some 32), none, (.slstr (.s 28) none (some (.s 31)))⟩, ⟨(some 5), none, (.mov (.s 32))⟩]) .skip)) (.seq (.reg [⟨(some 33), none, (.mov (.s 0))⟩, ⟨(some 34), none, (.mov (.s 1))⟩, ⟨(some 35), none, (.slstr (.s 33) none (some (.s 34)))⟩, ⟨(some 36), none, (.call 117 [(.s 35), (.c (.e (.v (.int .u8 115)))), (.c (.int 0))])⟩, ⟨(some 37), none, (.mov (.s 36))⟩, ⟨(some 38), (some (37, true)), (.mov (.s 5))⟩, ⟨(some 39), (some (37, true)), (.call 117 [(.s 38), (.c (.e (.v (.int .u8 102)))), (.c (.int 1))])⟩, ⟨(some 40), none, (.pick (.s 37) (.s 39) (.c (.bool false)))⟩, ⟨(some 4), none, (.mov (.s 40))⟩]) .ret)))))⟩
theorem p116 : prepF Try.prog 116 = some c116 := by kernel_rfl
def c117 : F := ⟨23, [(.tmp 6)], (.seq (.reg [⟨(some 6), none, (.mov (.c (.bool false)))⟩]) (.seq (.seq (.reg [⟨(some 7), none, (.mov (.c (.int 0)))⟩]) (.block 0 (.loop (.seq (.seq (.reg [⟨(some 8), none, (.mov (.s 7))⟩, ⟨(some 9), none, (.mov (.s 0))⟩, ⟨(some 10), none, (.lens (.s 9))⟩, ⟨(some 11), none, (.bin .lss (.s 8) (.s 10))⟩]) (.cond (.s 11) .skip (.exit 0))) (.seq (.block 1 (.seq (.reg [⟨(some 14), none, (.mov (.s 0))⟩, ⟨(some 15), none, (.mov (.s 7))⟩, ⟨(some 16), none, (.ixs (.s 14) (.s 15))⟩, ⟨(some 17), none, (.mov (.s 1))⟩, ⟨(some 18), none, (.bin .neq (.s 16) (.s 17))⟩]) (.cond (.s 18) (.seq (.reg [⟨(some 6), none, (.mov (.c (.bool false)))⟩]) .ret) .skip))) (.reg [⟨(some 12), none, (.mov (.s 7))⟩, ⟨(some 13), none, (.bin .add (.s 12) (.c (.int 1)))⟩, ⟨(some 7), none, (.mov (.s 13))⟩])))))) (.seq (.reg [⟨(some 19), none, (.mov (.s 0))⟩, ⟨(some 20), none, (.lens (.s 19))⟩, ⟨(some 21), none, (.mov (.s 2))⟩, ⟨(some 22), none, (.bin .geq (.s 20) (.s 21))⟩, ⟨(some 6), none, (.mov (.s 22))⟩]) .ret)))⟩
theorem p117 : prepF Try.prog 117 = some c117 := by kernel_rfl
def c118 : F := ⟨24, [(.cell 2 true 6)], (.seq (.reg [⟨(some 1), none, (.box (.s 0))⟩, ⟨(some 2), none, (.alloc [(.int 0), (.int 0), (.int 0), (.str []), (.str []), (.e (.sl []))])⟩]) (.seq (.reg [⟨(some 3), none, (.alloc [(.int 0), (.int 0), (.int 0), (.str []), (.str []), (.e (.sl []))])⟩]) (.seq (.reg [⟨(some 4), none, (.fadr 0 (.s 1))⟩, ⟨(some 5), none, (.load false 1 (.s 4))⟩, ⟨(some 6), none, (.fadr 0 (.s 3))⟩, ⟨none, none, (.store false 1 (.s 6) (.s 5))⟩]) (.seq (.reg [⟨(some 7), none, (.fadr 1 (.s 1))⟩, ⟨(some 8), none, (.load false 1 (.s 7))⟩, ⟨(some 9), none, (.fadr 1 (.s 3))⟩, ⟨none, none, (.store false 1 (.s 9) (.s 8))⟩]) (.seq (.reg [⟨(some 10), none, (.fadr 2 (.s 1))⟩, ⟨(some 11), none, (.load false 1 (.s 10))⟩, ⟨(some 12), none, (.fadr 2 (.s 3))⟩, ⟨none, none, (.store false 1 (.s 12) (.s 11))⟩]) (.seq (.reg [⟨(some 13), none, (.fadr 3 (.s 1))⟩, ⟨(some 14), none, (.load false 1 (.s 13))⟩, ⟨(some 15), none, (.fadr 3 (.s 3))⟩, ⟨none, none, (.store false 1 (.s 15) (.s 14))⟩]) (.seq (.reg [⟨(some 16), none, (.fadr 4 (.s 1))⟩, ⟨(some 17), none, (.load false 1 (.s 16))⟩, ⟨(some 18), none, (.fadr 4 (.s 3))⟩, ⟨none, none, (.store false 1 (.s 18) (.s 17))⟩]) (.seq (.reg [⟨(some 19), none, (.fadr 5 (.s 1))⟩, ⟨(some 20), none, (.load false 1 (.s 19))⟩, ⟨(some 21), none, (.call 165 [(.s 20)])⟩, ⟨(some 22), none, (.fadr 5 (.s 3))⟩, ⟨none, none, (.store false 1 (.s 22) (.s 21))⟩]) (.seq (.reg [⟨(some 23), none, (.load true 6 (.s 3))⟩, ⟨none, none, (.store true 6 (.s 2) (.s 23))⟩]) .ret)))))))))⟩
theorem p118 : prepF Try.prog 118 = some c118 := by kernel_rfl
def c120 : F := ⟨63, [(.tmp 4)], (.seq (.reg [⟨(some 2), none, (.box (.s 0))⟩, ⟨(some 4), none, (.mov (.c (.bool false)))⟩]) (.seq (.seq (.reg [⟨(some 10), none, (.fadr 1 (.s 2))⟩, ⟨(some 11), none, (.load false 1 (.s 10))⟩, ⟨(some 12), none, (.bin .lss (.s 11) (.c (.int 0)))⟩, ⟨(some 13), none, (.mov (.s 12))⟩, ⟨(some 14), (some (13, false)), (.fadr 1 (.s 2))⟩, ⟨(some 15), (some (13, false)), (.load false 1 (.s 14))⟩, ⟨(some 16), (some (13, false)), (.mov (.s 1))⟩, ⟨(some 17), (some (13, false)), (.lenl (.s 16))⟩, ⟨(some 18), (some (13, false)), (.bin .geq (.s 15) (.s 17))⟩, ⟨(some 19), none, (.pick (.s 13) (.c (.bool true)) (.s 18))⟩]) (.cond (.s 19) (.seq (.reg [⟨(some 4), none, (.mov (.c (.bool false)))⟩]) .ret) .skip)) (.seq (.seq (.reg [⟨(some 20), none, (.mov (.s 1))⟩, ⟨(some 21), none, (.fadr 1 (.s 2))⟩, ⟨(some 22), none, (.load false 1 (.s 21))⟩, ⟨(some 23), none, (.slice 1 (.s 20) none (some (.s 22)))⟩, ⟨(some 24), none, (.lenl (.s 23))⟩, ⟨(some 25), none, (.mov (.c (.int 0)))⟩]) (.block 0 (.loop (.seq (.reg [⟨(some 26), none, (.bin .lss (.s 25) (.s 24))⟩]) (.seq (.cond (.s 26) .skip (.exit 0)) (.seq (.block 1 (.seq (.reg [⟨(some 27), none, (.iadr none 1 (.s 23) (.s 25))⟩, ⟨(some 28), none, (.load false 1 (.s 27))⟩, ⟨(some 6), none, (.mov (.s 28))⟩]) (.seq (.reg [⟨(some 29), none, (.mov (.s 6))⟩, ⟨(some 30), none, (.call 123 [(.s 29)])⟩, ⟨(some 31), none, (.un .not (.s 30))⟩]) (.cond (.s 31) (.seq (.reg [⟨(some 4), none, (.mov (.c (.bool false)))⟩]) .ret) .skip)))) (.reg [⟨(some 32), none, (.bin .add (.s 25) (.c (.int 1)))⟩, ⟨(some 25), none, (.mov (.s 32))⟩]))))))) (.seq (.reg [⟨(some 33), none, (.mov (.s 1))⟩, ⟨(some 34), none, (.fadr 1 (.s 2))⟩, ⟨(some 35), none, (.load false 1 (.s 34))⟩, ⟨(some 36), none, (.slice 1 (.s 33) (some (.s 35)) none)⟩, ⟨(some 7), none, (.mov (.s 36))⟩]) (.seq (.seq (.reg [⟨(some 37), none, (.mov (.s 7))⟩, ⟨(some 38), none, (.iadr none 1 (.s 37) (.c (.int 0)))⟩, ⟨(some 39), none, (.load false 1 (.s 38))⟩, ⟨(some 40), none, (.bin .neq (.s 39) (.c (.int 5)))⟩]) (.cond (.s 40) (.seq (.reg [⟨(some 4), none, (.mov (.c (.bool false)))⟩]) .ret) .skip)) (.seq (.seq (.reg [⟨(some 41), none, (.mov (.s 7))⟩, ⟨(some 42), none, (.lenl (.s 41))⟩, ⟨(some 43), none, (.mov (.c (.int 0)))⟩]) (.block 2 (.loop (.seq (.reg [⟨(some 44), none, (.bin .lss (.s 43) (.s 42))⟩]) (.seq (.cond (.s 44) .skip (.exit 2)) (.seq (.block 3 (.seq (.reg [⟨(some 45), none, (.mov (.s 43))⟩, ⟨(some 46), none, (.iadr none 1 (.s 41) (.s 43))⟩, ⟨(some 47), none, (.load false 1 (.s 46))⟩, ⟨(some 8), none, (.mov (.s 45))⟩, ⟨(some 9), none, (.mov (.s 47))⟩]) (.seq (.reg [⟨(some 48), none, (.mov (.s 9))⟩, ⟨(some 49), none, (.bin .neq (.s 48) (.c (.int 5)))⟩, ⟨(some 50), none, (.mov (.s 49))⟩, ⟨(some 51), (some (50, true)), (.mov (.s 8))⟩, ⟨(some 52), (some (50, true)), (.mov (.s 7))⟩, ⟨(some 53), (some (50, true)), (.lenl (.s 52))⟩, ⟨(some 54), (some (50, true)), (.bin .sub (.s 53) (.c (.int 1)))⟩, ⟨(some 55), (some (50, true)), (.bin .neq (.s 51) (.s 54))⟩, ⟨(some 56), (some (50, true)), (.mov (.s 55))⟩, ⟨(some 57), (some (56, false)), (.mov (.s 9))⟩, ⟨(some 58), (some (56, false)), (.call 124 [(.s 57)])⟩, ⟨(some 59), (some (56, false)), (.un .not (.s 58))⟩, ⟨(some 60), (some (50, true)), (.pick (.s 56) (.c (.bool true)) (.s 59))⟩, ⟨(some 61), none, (.pick (.s 50) (.s 60) (.c (.bool false)))⟩]) (.cond (.s 61) (.seq (.reg [⟨(some 4), none, (.mov (.c (.bool false)))⟩]) .ret) .skip)))) (.reg [⟨(some 62), none, (.bin .add (.s 43) (.c (.int 1)))⟩, ⟨(some 43), none, (.mov (.s 62))⟩]))))))) (.seq (.reg [⟨(some 4), none, (.mov (.c (.bool true)))⟩]) .ret)))))))⟩
theorem p120 : prepF Try.prog 120 = some c120 := by kernel_rfl
def c121 : F := ⟨17, [(.tmp 6)], (.seq (.reg [⟨(some 5), none, (.box (.s 2))⟩, ⟨(some 6), none, (.mov (.c (.bool false)))⟩]) (.seq (.reg [⟨(some 7), none, (.mov (.s 0))⟩, ⟨(some 8), none, (.lenl (.s 7))⟩, ⟨(some 9), none, (.mov (.s 1))⟩, ⟨(some 10), none, (.bin .geq (.s 8) (.s 9))⟩, ⟨(some 11), none, (.mov (.s 10))⟩, ⟨(some 12), (some (11, true)), (.mov (.s 0))⟩, ⟨(some 13), (some (11, true)), (.mkf (.func 170) [] [(.s 5)])⟩, ⟨(some 14), (some (11, true)), (.call 169 [(.s 12), (.s 13)])⟩, ⟨(some 15), (some (11, true)), (.un .not (.s 14))⟩, ⟨(some 16), none, (.pick (.s 11) (.s 15) (.c (.bool false)))⟩, ⟨(some 6), none, (.mov (.s 16))⟩]) .ret))⟩
theorem p121 : prepF Try.prog 121 = some c121 := by kernel_rfl
def c122 : F := ⟨5, [(.tmp 2)], (.seq (.reg [⟨(some 2), none, (.mov (.c (.bool false)))⟩]) (.seq (.reg [⟨(some 3), none, (.mov (.s 0))⟩, ⟨(some 4), none, (.bin .eql (.s 3) (.c (.int 6)))⟩, ⟨(some 2), none, (.mov (.s 4))⟩]) .ret))⟩
theorem p122 : prepF Try.prog 122 = some c122 := by kernel_rfl
def c123 : F := ⟨9, [(.tmp 2)], (.seq (.reg [⟨(some 2), none, (.mov (.c (.bool false)))⟩]) (.seq (.reg [⟨(some 3), none, (.mov (.s 0))⟩, ⟨(some 4), none, (.bin .geq (.s 3) (.c (.int 1)))⟩, ⟨(some 5), none, (.mov (.s 4))⟩, ⟨(some 6), (some (5, true)), (.mov (.s 0))⟩, ⟨(some 7), (some (5, true)), (.bin .leq (.s 6) (.c (.int 4)))⟩, ⟨(some 8), none, (.pick (.s 5) (.s 7) (.c (.bool false)))⟩, ⟨(some 2), none, (.mov (.s 8))⟩]) .ret))⟩
theorem p123 : prepF Try.prog 123 = some c123 := by kernel_rfl
def c124 : F := ⟨9, [(.tmp 2)], (.seq (.reg [⟨(some 2), none, (.mov (.c (.bool false)))⟩]) (.seq (.reg [⟨(some 3), none, (.mov (.s 0))⟩, ⟨(some 4), none, (.bin .geq (.s 3) (.c (.int 8)))⟩, ⟨(some 5), none, (.mov (.s 4))⟩, ⟨(some 6), (some (5, true)), (.mov (.s 0))⟩, ⟨(some 7), (some (5, true)), (.bin .leq (.s 6) (.c (.int 15)))⟩, ⟨(some 8), none, (.pick (.s 5) (.s 7) (.c (.bool false)))⟩, ⟨(some 2), none, (.mov (.s 8))⟩]) .ret))⟩
theorem p124 : prepF Try.prog 124 = some c124 := by kernel_rfl
def c125 : F := ⟨36, [(.tmp 4)], (.seq (.reg [⟨(some 2), none, (.box (.s 0))⟩, ⟨(some 3), none, (.box (.s 1))⟩, ⟨(some 4), none, (.mov (.c (.bool false)))⟩]) (.seq (.seq (.reg [⟨(some 5), none, (.fadr 0 (.s 2))⟩, ⟨(some 6), none, (.load false 1 (.s 5))⟩, ⟨(some 7), none, (.fadr 0 (.s 3))⟩, ⟨(some 8), none, (.load false 1 (.s 7))⟩, ⟨(some 9), none, (.bin .neq (.s 6) (.s 8))⟩]) (.cond (.s 9) (.seq (.reg [⟨(some 4), none, (.mov (.c (.bool false)))⟩]) .ret) .skip)) (.seq (.seq (.reg [⟨(some 10), none, (.fadr 1 (.s 2))⟩, ⟨(some 11), none, (.load false 1 (.s 10))⟩, ⟨(some 12), none, (.fadr 1 (.s 3))⟩, ⟨(some 13), none, (.load false 1 (.s 12))⟩, ⟨(some 14), none, (.bin .neq (.s 11) (.s 13))⟩]) (.cond (.s 14) (.seq (.reg [⟨(some 4), none, (.mov (.c (.bool false)))⟩]) .ret) .skip)) (.seq (.seq (.reg [⟨(some 15), none, (.fadr 2 (.s 2))⟩, ⟨(some 16), none, (.load false 1 (.s 15))⟩, ⟨(some 17), none, (.fadr 2 (.s 3))⟩, ⟨(some 18), none, (.load false 1 (.s 17))⟩, ⟨(some 19), none, (.bin .neq (.s 16) (.s 18))⟩]) (.cond (.s 19) (.seq (.reg [⟨(some 4), none, (.mov (.c (.bool false)))⟩]) .ret) .skip)) (.seq (.seq (.reg [⟨(some 20), none, (.fadr 3 (.s 2))⟩, ⟨(some 21), none, (.load false 1 (.s 20))⟩, ⟨(some 22), none, (.fadr 3 (.s 3))⟩, ⟨(some 23), none, (.load false 1 (.s 22))⟩, ⟨(some 24), none, (.bin .neq (.s 21) (.s 23))⟩]) (.cond (.s 24) (.seq (.reg [⟨(some 4), none, (.mov (.c (.bool false)))⟩]) .ret) .skip)) (.seq (.seq (.reg [⟨(some 25), none, (.fadr 4 (.s 2))⟩, ⟨(some 26), none, (.load false 1 (.s 25))⟩, ⟨(some 27), none, (.fadr 4 (.s 3))⟩, ⟨(some 28), none, (.load false 1 (.s 27))⟩, ⟨(some 29), none, (.bin .neq (.s 26) (.s 28))⟩]) (.cond (.s 29) (.seq (.reg [⟨(some 4), none, (.mov (.c (.bool false)))⟩]) .ret) .skip)) (.seq (.seq (.reg [⟨(some 30), none, (.fadr 5 (.s 2))⟩, ⟨(some 31), none, (.load false 1 (.s 30))⟩, ⟨(some 32), none, (.fadr 5 (.s 3))⟩, ⟨(some 33), none, (.load false 1 (.s 32))⟩, ⟨(some 34), none, (.call 171 [(.s 31), (.s 33)])⟩, ⟨(some 35), none, (.un .not (.s 34))⟩]) (.cond (.s 35) (.seq (.reg [⟨(some 4), none, (.mov (.c (.bool false)))⟩]) .ret) .skip)) (.seq (.reg [⟨(some 4), none, (.mov (.c (.bool true)))⟩]) .ret))))))))⟩
theorem p125 : prepF Try.prog 125 = some c125 := by kernel_rfl
def c161 : F := ⟨12, [(.tmp 4)], (.seq (.reg [⟨(some 4), none, (.mov (.c (.int 0)))⟩]) (.seq (.reg [⟨(some 5), none, (.mov (.s 1))⟩, ⟨(some 6), none, (.mov (.s 0))⟩, ⟨(some 7), none, (.lenl (.s 6))⟩, ⟨(some 8), none, (.bin .sub (.s 5) (.s 7))⟩, ⟨(some 1), none, (.mov (.s 8))⟩]) (.seq (.seq (.reg [⟨(some 9), none, (.mov (.s 1))⟩, ⟨(some 10), none, (.bin .lss (.s 9) (.c (.int 0)))⟩]) (.cond (.s 10) (.seq (.reg [⟨(some 4), none, (.mov (.c (.int (-1))))⟩]) .ret) .skip)) (.seq (.reg [⟨(some 11), none, (.mov (.s 1))⟩, ⟨(some 4), none, (.mov (.s 11))⟩]) .ret))))⟩
theorem p161 : prepF Try.prog 161 = some c161 := by kernel_rfl
def c162 : F := ⟨9, [(.tmp 2)], (.seq (.reg [⟨(some 2), none, (.mov (.c (.bool false)))⟩]) (.seq (.reg [⟨(some 3), none, (.mov (.s 0))⟩, ⟨(some 4), none, (.bin .geq (.s 3) (.c (.int 1)))⟩, ⟨(some 5), none, (.mov (.s 4))⟩, ⟨(some 6), (some (5, true)), (.mov (.s 0))⟩, ⟨(some 7), (some (5, true)), (.bin .leq (.s 6) (.c (.int 4)))⟩, ⟨(some 8), none, (.pick (.s 5) (.s 7) (.c (.bool false)))⟩, ⟨(some 2), none, (.mov (.s 8))⟩]) .ret))⟩
theorem p162 : prepF Try.prog 162 = some c162 := by kernel_rfl
def c165 : F := ⟨22, [(.tmp 2)], (.seq (.reg [⟨(some 2), none, (.mov (.c .zs))⟩]) (.seq (.reg [⟨(some 5), none, (.mov (.s 0))⟩, ⟨(some 6), none, (.lenl (.s 5))⟩, ⟨(some 7), none, (.mks [(.int 0)] (.s 6))⟩, ⟨(some 3), none, (.mov (.s 7))⟩]) (.seq (.seq (.reg [⟨(some 4), none, (.mov (.c (.int 0)))⟩]) (.block 0 (.loop (.seq (.seq (.reg [⟨(some 8), none, (.mov (.s 4))⟩, ⟨(some 9), none, (.mov (.s 0))⟩, ⟨(some 10), none, (.lenl (.s 9))⟩, ⟨(some 11), none, (.bin .lss (.s 8) (.s 10))⟩]) (.cond (.s 11) .skip (.exit 0))) (.seq (.block 1 (.reg [⟨(some 14), none, (.mov (.s 3))⟩, ⟨(some 15), none, (.mov (.s 4))⟩, ⟨(some 16), none, (.mov (.s 0))⟩, ⟨(some 17), none, (.mov (.s 4))⟩, ⟨(some 18), none, (.iadr none 1 (.s 16) (.s 17))⟩, ⟨(some 19), none, (.load false 1 (.s 18))⟩, ⟨(some 20), none, (.iadr none 1 (.s 14) (.s 15))⟩, ⟨none, none, (.store false 1 (.s 20) (.s 19))⟩])) (.reg [⟨(some 12), none, (.mov (.s 4))⟩, ⟨(some 13), none, (.bin .add (.s 12) (.c (.int 1)))⟩, ⟨(some 4), none, (.mov (.s 13))⟩])))))) (.seq (.reg [⟨(some 21), none, (.mov (.s 3))⟩, ⟨(some 2), none, (.mov (.s 21))⟩]) .ret))))⟩
theorem p165 : prepF Try.prog 165 = some c165 := by kernel_rfl
def c169 : F := ⟨9, [(.tmp 4)], (.seq (.reg [⟨(some 4), none, (.mov (.c (.bool false)))⟩]) (.seq (.reg [⟨(some 5), none, (.mov (.s 0))⟩, ⟨(some 6), none, (.mov (.s 1))⟩, ⟨(some 7), none, (.call 194 [(.s 5), (.s 6)])⟩, ⟨(some 8), none, (.bin .geq (.s 7) (.c (.int 0)))⟩, ⟨(some 4), none, (.mov (.s 8))⟩]) .ret))⟩
theorem p169 : prepF Try.prog 169 = some c169 := by kernel_rfl
def c170 : F := ⟨8, [(.tmp 3)], (.seq (.reg [⟨(some 3), none, (.mov (.c (.bool false)))⟩]) (.seq (.reg [⟨(some 4), none, (.load false 1 (.s 1))⟩, ⟨(some 5), none, (.mov (.s 0))⟩, ⟨(some 6), none, (.callv (.s 4) [(.s 5)])⟩, ⟨(some 7), none, (.un .not (.s 6))⟩, ⟨(some 3), none, (.mov (.s 7))⟩]) .ret))⟩
theorem p170 : prepF Try.prog 170 = some c170 := by kernel_rfl
def c171 : F := ⟨26, [(.tmp 4)], (.seq (.reg [⟨(some 4), none, (.mov (.c (.bool false)))⟩]) (.seq (.seq (.reg [⟨(some 6), none, (.mov (.s 0))⟩, ⟨(some 7), none, (.lenl (.s 6))⟩, ⟨(some 8), none, (.mov (.s 1))⟩, ⟨(some 9), none, (.lenl (.s 8))⟩, ⟨(some 10), none, (.bin .neq (.s 7) (.s 9))⟩]) (.cond (.s 10) (.seq (.reg [⟨(some 4), none, (.mov (.c (.bool false)))⟩]) .ret) .skip)) (.seq (.seq (.reg [⟨(some 5), none, (.mov (.c (.int 0)))⟩]) (.block 0 (.loop (.seq (.seq (.reg [⟨(some 11), none, (.mov (.s 5))⟩, ⟨(some 12), none, (.mov (.s 0))⟩, ⟨(some 13), none, (.lenl (.s 12))⟩, ⟨(some 14), none, (.bin .lss (.s 11) (.s 13))⟩]) (.cond (.s 14) .skip (.exit 0))) (.seq (.block 1 (.seq (.dreg [⟨⟨(some 17), none, (.mov (.s 0))⟩, [], [0]⟩, ⟨⟨(some 18), none, (.mov (.s 5))⟩, [0], [5]⟩, ⟨⟨(some 19), none, (.iadr none 1 (.s 17) (.s 18))⟩, [], [17, 18]⟩, ⟨⟨(some 20), none, (.load false 1 (.s 19))⟩, [], [19]⟩, ⟨⟨(some 21), none, (.mov (.s 1))⟩, [0, 1, 2, 3], [1]⟩, ⟨⟨(some 22), none, (.mov (.s 5))⟩, [0, 1, 2, 3, 4], [5]⟩, ⟨⟨(some 23), none, (.iadr none 1 (.s 21) (.s 22))⟩, [0, 1, 2, 3], [21, 22]⟩, ⟨⟨(some 24), none, (.load false 1 (.s 23))⟩, [0, 1, 2, 3], [23]⟩, ⟨⟨(some 25), none, (.bin .neq (.s 20) (.s 24))⟩, [], [20, 24]⟩]) (.cond (.s 25) (.seq (.reg [⟨(some 4), none, (.mov (.c (.bool false)))⟩]) .ret) .skip))) (.reg [⟨(some 15), none, (.mov (.s 5))⟩, ⟨(some 16), none, (.bin .add (.s 15) (.c (.int 1)))⟩, ⟨(some 5), none, (.mov (.s 16))⟩])))))) (.seq (.reg [⟨(some 4), none, (.mov (.c (.bool true)))⟩]) .ret))))⟩
theorem p171 : prepF Try.prog 171 = some c171 := by kernel_rfl
def c194 : F := ⟨19, [(.tmp 4)], (.seq (.reg [⟨(some 4), none, (.mov (.c (.int 0)))⟩]) (.seq (.seq (.reg [⟨(some 6), none, (.mov (.s 0))⟩, ⟨(some 7), none, (.lenl (.s 6))⟩, ⟨(some 8), none, (.mov (.c (.int 0)))⟩]) (.block 0 (.loop (.seq (.reg [⟨(some 9), none, (.bin .lss (.s 8) (.s 7))⟩]) (.seq (.cond (.s 9) .skip (.exit 0)) (.seq (.block 1 (.seq (.reg [⟨(some 10), none, (.mov (.s 8))⟩, ⟨(some 5), none, (.mov (.s 10))⟩]) (.seq (.reg [⟨(some 11), none, (.mov (.s 1))⟩, ⟨(some 12), none, (.mov (.s 0))⟩, ⟨(some 13), none, (.mov (.s 5))⟩, ⟨(some 14), none, (.iadr none 1 (.s 12) (.s 13))⟩, ⟨(some 15), none, (.load false 1 (.s 14))⟩, ⟨(some 16), none, (.callv (.s 11) [(.s 15)])⟩]) (.cond (.s 16) (.seq (.reg [⟨(some 17), none, (.mov (.s 5))⟩, ⟨(some 4), none, (.mov (.s 17))⟩]) .ret) .skip)))) (.reg [⟨(some 18), none, (.bin .add (.s 8) (.c (.int 1)))⟩, ⟨(some 8), none, (.mov (.s 18))⟩]))))))) (.seq (.reg [⟨(some 4), none, (.mov (.c (.int (-1))))⟩]) .ret)))⟩
theorem p194 : prepF Try.prog 194 = some c194 := by kernel_rfl
end Go.Proofs.Ytfplalbognalkaa.Ab
/- The laws' helpers over trees: measured, copied, alike. -/
namespace Go.Proofs.Ytfplalbognalkaa.Ab
open Go
def cI (r : List Int) : Int := r.length
theorem cI_nonneg (r : List Int) : 0 ≤ cI r := by unfold cI; omega
def cN (d : Nd) : Int := d.S.length + d.T.length + cI d.Ks
theorem cN_nonneg (d : Nd) : 0 ≤ cN d := by have := cI_nonneg d.Ks; unfold cN; omega
def cNS (ns : List Nd) : Int := ns.length + sumC cN ns
theorem cNS_nonneg (ns : List Nd) : 0 ≤ cNS ns := by have := sumC_nonneg cN_nonneg ns; unfold cNS; omega
theorem int_at {l : List Int} {es : List (List E)} (he : es = l.map ir) {n : Int} (h : 0 ≤ n ∧ n < es.length) : ∃ p, es.getD n.toNat [] = [E.int p] ∧ l[n.toNat]? = some p := row_at he h
theorem ok161 (r : List Int) (x : List (List E)) (hx : x = r.map ir) (left : Int) (h : 0 ≤ left ∧ left ≤ 1048576) : Plain Try.prog 161 [.e (.sl x), .int left] (.int (cut left (cI r))) := okOf mixed p161 fun A P hA hP => (by
  have hl : x.length = r.length := by rw [hx]; simp
  obtain ⟨u, hu⟩ : ∃ u, u = cut left (cI r) := ⟨_, rfl⟩
  have h1 : u = if left - x.length < 0 then -1 else left - x.length := by rw [hu, cut, cI, hl]
  rw [← hu]
  clear hu
  cbv
  repeat' first | with_reducible rfl | with_reducible refine And.intro ?_ ?_ | ((with_reducible intro hcc); first | (cases hcc; done) | skip) | ((with_reducible show goC _ _ _ _ _ _ _ _); cbv) | ((with_reducible show goOps _ _ _ _ _); cbv) | ((with_reducible show okWr _ _ = _); rfl) | ((with_reducible refine hA.fin_pl _ _ _ ?_); cbv) | ((with_reducible refine hA.len _ _ _ _ _ fun z hz hb => ?_); cbv) | (simp only [hA.natLit, hA.natOf, hA.natCast]; cbv)
  all_goals try simp only [hA.add, hA.sub, hA.mul, hA.neg, hA.div, hA.mod, hA.mn, hA.mx, hA.eq, hA.lt, hA.le, hA.nat, hA.R, hA.lep, hA.ltp, hA.seq, inR, n_cast, Int.ofNat_eq_natCast, Option.getD_some, Option.getD_none] at *
  all_goals first
    | omega
    | (rw [h1, if_pos (of_decide_eq_true (by assumption))]; done)
    | (rw [h1, if_neg (of_decide_eq_false (by assumption))]; done)
    | (clear h1; simp at *; omega)
    | (clear hx; grind; done)
    | (trace_state; fail))
set_option maxRecDepth 100000 in
set_option maxHeartbeats 1000000 in
theorem ok165 (l : List Int) (es : List (List E)) (he : es = l.map ir) (hlen : es.length ≤ 1048576) : Plain Try.prog 165 [.e (.sl es)] (.e (.sl es)) := okOf mixed p165 fun A P hA hP => (by
  have hl1 : es.length = l.length := by rw [he]; simp
  have hes : ∀ e ∈ es, e.length = 1 := by
    rw [he]
    intro e h
    obtain ⟨p, _, rfl⟩ := List.mem_map.1 h
    rfl
  cbv
  repeat' first | with_reducible rfl | with_reducible refine And.intro ?_ ?_ | ((with_reducible intro hcc); first | (cases hcc; done) | skip) | ((with_reducible show goC _ _ _ _ _ _ _ _); cbv) | ((with_reducible show goOps _ _ _ _ _); cbv) | ((with_reducible show okWr _ _ = _); rfl) | ((with_reducible refine hA.fin_pl _ _ _ ?_); cbv) | ((with_reducible refine hA.len _ _ _ _ _ fun z hz hb => ?_); cbv) | ((with_reducible refine hA.off _ _ _ _ fun b hb => ?_); cbv) | ((with_reducible refine hA.rep _ _ _ fun ds m hds hm => ?_); cbv) | ((with_reducible refine hA.st _ _ _ _ _ ⟨?_, fun ds hds => ?_⟩); rotate_left; cbv) | ((with_reducible refine hA.alt _ _ (Or.inl ?_)); cbv) | ((with_reducible refine hA.sapp _ _ _ ⟨?_, fun sl hsl => ?_⟩); rotate_left; cbv) | (simp only [hA.natLit, hA.natOf, hA.natCast]; cbv)
  all_goals try simp only [hA.add, hA.sub, hA.mul, hA.neg, hA.div, hA.mod, hA.mn, hA.mx, hA.eq, hA.lt, hA.le, hA.nat, hA.R, hA.lep, hA.ltp, hA.seq, inR, n_cast, Int.ofNat_eq_natCast, Option.getD_some, Option.getD_none] at *
  · omega
  · omega
  · refine hA.loopI (fun n s => ∃ (i : Int) (xs : List (List E)), 0 ≤ i ∧ n + i = es.length ∧ xs.length = es.length ∧ (∀ e ∈ xs, e.length = 1) ∧ (∀ j : Nat, j < i → xs[j]? = es[j]?) ∧
        s = ⟨[(4, .int i), (3, .bs 0 0 m 1), (2, .zs), (0, .e (.sl es))], [.box (xs.flatten.map .e)]⟩) es.length _
      (Weak.keep (env' := [(4, .int 0), (3, .bs 0 0 m 1), (2, .zs), (0, .e (.sl es))]) ⟨rfl, rfl, rfl, rfl, trivial⟩)
      ⟨0, List.replicate m [E.int 0], by omega, by omega, by simp; omega, by simp, fun j hj => by omega, by rw [← buf_zero, hm]; rw [hds]; rfl⟩ ?_
    rintro n s K ⟨i, xs, h0, h1, h2, h3, h4, rfl⟩ hK
    obtain ⟨ys, hys⟩ : ∃ ys, ys = xs.flatten.map D.e := ⟨_, rfl⟩
    have hyl : ys.length = xs.length * 1 := by rw [hys, List.length_map, flatten_len h3]
    rw [← hys]
    by_cases hin : (0 : Int) ≤ i ∧ i < es.length
    · obtain ⟨p1, e1, q1⟩ := row_at he hin
      have hc := True.intro
      have hrow0 : es[i.toNat]? = some (es.getD i.toNat []) := by
        have : i.toNat < es.length := by omega
        simp [List.getD, this]
      have hrl : (es.getD i.toNat []).length = 1 := hes _ (List.mem_of_getElem? hrow0)
      cbv
      repeat' first | with_reducible rfl | with_reducible refine And.intro ?_ ?_ | ((with_reducible intro hcc); first | (cases hcc; done) | skip) | ((with_reducible show goC _ _ _ _ _ _ _ _); cbv) | ((with_reducible show goOps _ _ _ _ _); cbv) | ((with_reducible show okWr _ _ = _); rfl) | ((with_reducible refine hA.row es _ _ ⟨hin, fun row hrow => ?_⟩); rw [e1] at hrow; subst hrow; cbv) | ((with_reducible refine hA.fin_pl _ _ _ ?_); cbv) | ((with_reducible refine hA.len _ _ _ _ _ fun z hz hb => ?_); cbv) | ((with_reducible refine hA.off _ _ _ _ fun b hb => ?_); cbv) | ((with_reducible refine hA.rep _ _ _ fun ds m hds hm => ?_); cbv) | ((with_reducible refine hA.st _ _ _ _ _ ⟨?_, fun ds hds => ?_⟩); rotate_left; cbv) | ((with_reducible refine hA.alt _ _ (Or.inl ?_)); cbv) | ((with_reducible refine hA.sapp _ _ _ ⟨?_, fun sl hsl => ?_⟩); rotate_left; cbv) | (simp only [hA.natLit, hA.natOf, hA.natCast]; cbv)
      all_goals try simp only [hA.add, hA.sub, hA.mul, hA.neg, hA.div, hA.mod, hA.mn, hA.mx, hA.eq, hA.lt, hA.le, hA.nat, hA.R, hA.lep, hA.ltp, hA.seq, inR, n_cast, Int.ofNat_eq_natCast, Option.getD_some, Option.getD_none] at *
      all_goals first
        | (show _ < (m : Int); omega)
        | omega
        | (clear hK h4 he; grind; done)
        | (have hb' : b = i.toNat * 1 := by omega
           refine hK _ (n - 1) _ (by omega) (Weak.keep (env' := [(4, .int (i + 1)), (3, .bs 0 0 m 1), (2, .zs), (0, .e (.sl es))]) ⟨rfl, rfl, rfl, rfl, trivial⟩)
             ⟨i + 1, xs.set i.toNat (es.getD i.toNat []), by omega, by omega, by simp [h2], fun e h => ?_, fun j hj => ?_, ?_⟩
           · rcases List.mem_or_eq_of_mem_set h with h | rfl
             · exact h3 e h
             · exact hrl
           · by_cases hji : (j : Int) < i
             · rw [List.getElem?_set_ne (show i.toNat ≠ j by omega)]; exact h4 j hji
             · have : j = i.toNat := by omega
               subst this
               rw [List.getElem?_set_self (show i.toNat < xs.length by omega), hrow0]
           · congr 2
             rw [hds, hys, hb']
             congr 1
             have q := buf_set (k := 1) (by omega) h3 (i := i.toNat) (show i.toNat < xs.length by omega) hrl
             rw [e1] at q ⊢
             exact q)
    · have hxe : xs = es := by
        refine List.ext_getElem? fun j => ?_
        by_cases hj : (j : Int) < i
        · exact h4 j hj
        · rw [List.getElem?_eq_none (by omega), List.getElem?_eq_none (by omega)]
      cbv
      repeat' first | with_reducible rfl | with_reducible refine And.intro ?_ ?_ | ((with_reducible intro hcc); first | (cases hcc; done) | skip) | ((with_reducible show goC _ _ _ _ _ _ _ _); cbv) | ((with_reducible show goOps _ _ _ _ _); cbv) | ((with_reducible show okWr _ _ = _); rfl) | (exfalso; simp only [hA.lt, hA.sub, decide_eq_true_eq, decide_eq_false_iff_not, n_cast] at *; omega) | ((with_reducible refine hA.fin_bs (es := es) ?_ ?_ hes)) | ((with_reducible refine hA.fin_pl _ _ _ ?_); cbv) | ((with_reducible refine hA.len _ _ _ _ _ fun z hz hb => ?_); cbv) | ((with_reducible refine hA.off _ _ _ _ fun b hb => ?_); cbv) | ((with_reducible refine hA.rep _ _ _ fun ds m hds hm => ?_); cbv) | ((with_reducible refine hA.st _ _ _ _ _ ⟨?_, fun ds hds => ?_⟩); rotate_left; cbv) | ((with_reducible refine hA.alt _ _ (Or.inl ?_)); cbv) | ((with_reducible refine hA.sapp _ _ _ ⟨?_, fun sl hsl => ?_⟩); rotate_left; cbv) | (simp only [hA.natLit, hA.natOf, hA.natCast]; cbv)
      all_goals try simp only [hA.add, hA.sub, hA.mul, hA.neg, hA.div, hA.mod, hA.mn, hA.mx, hA.eq, hA.lt, hA.le, hA.nat, hA.R, hA.lep, hA.ltp, hA.seq, inR, n_cast, Int.ofNat_eq_natCast, Option.getD_some, Option.getD_none] at *
      all_goals first
        | (rw [hys, hxe]; rfl)
        | omega
        | (clear hK h4 he; grind; done)
        | (trace_state; fail))
set_option maxRecDepth 100000 in
theorem ok171 (l l' : List (Int)) (es fs : List (List E)) (he : es = l.map ir) (hf : fs = l'.map ir) : Plain Try.prog 171 [.e (.sl es), .e (.sl fs)] (.bool (decide (l = l'))) := okOf mixed p171 fun A P hA hP => (by
  obtain ⟨r, hr⟩ : ∃ r : Bool, r = decide (l = l') := ⟨_, rfl⟩
  rw [← hr]
  have hl1 : es.length = l.length := by rw [he]; simp
  have hl2 : fs.length = l'.length := by rw [hf]; simp
  cbv
  repeat' first | with_reducible rfl | with_reducible refine And.intro ?_ ?_ | ((with_reducible intro hcc); first | (cases hcc; done) | skip) | ((with_reducible show goC _ _ _ _ _ _ _ _); cbv) | ((with_reducible show goOps _ _ _ _ _); cbv) | ((with_reducible show okWr _ _ = _); rfl) | ((with_reducible refine hA.fin_pl _ _ _ ?_); cbv) | ((with_reducible refine hA.len _ _ _ _ _ fun z hz hb => ?_); cbv) | ((with_reducible refine hA.off _ _ _ _ fun b hb => ?_); cbv) | ((with_reducible refine hA.sapp _ _ _ ⟨?_, fun sl hsl => ?_⟩); rotate_left; cbv) | (simp only [hA.natLit, hA.natOf, hA.natCast]; cbv)
  all_goals try simp only [hA.add, hA.sub, hA.mul, hA.neg, hA.div, hA.mod, hA.mn, hA.mx, hA.eq, hA.lt, hA.le, hA.nat, hA.R, hA.lep, hA.ltp, hA.seq, inR, n_cast, Int.ofNat_eq_natCast, Option.getD_some, Option.getD_none] at *
  · have : l ≠ l' := fun e => by subst e; clear hr; grind
    rw [hr]; simp [this]
  · have hzz : es.length = fs.length := by clear hr; grind
    refine hA.loopI (fun n s => ∃ i : Int, 0 ≤ i ∧ n + i = l.length ∧ (∀ j : Nat, j < i → l[j]? = l'[j]?) ∧ s = ⟨[(5, .int i), (4, .bool false), (0, .e (.sl es)), (1, .e (.sl fs))], []⟩) l.length _ (Weak.keep (env' := [(5, .int 0), (4, .bool false), (0, .e (.sl es)), (1, .e (.sl fs))]) ⟨rfl, rfl, rfl, rfl, trivial⟩) ⟨0, by omega, by omega, fun j hj => by omega, rfl⟩ ?_
    rintro n s K ⟨i, h0, h1, h2, rfl⟩ hK
    by_cases hin : (0 : Int) ≤ i ∧ i < es.length
    · have hin2 : (0 : Int) ≤ i ∧ i < fs.length := by omega
      obtain ⟨p1, e1, q1⟩ := row_at he hin
      obtain ⟨p2, e2, q2⟩ := row_at hf hin2
      obtain ⟨c, hcc⟩ : ∃ c : Bool, c = decide ((p1 : Int) = p2) := ⟨_, rfl⟩
      have c1 : c = false → r = false := fun e => by
        rw [hr, decide_eq_false_iff_not]
        intro e'
        subst e'
        rw [q1] at q2
        cases q2
        rw [e] at hcc
        simp at hcc
      have c2 : c = true → l[i.toNat]? = l'[i.toNat]? := fun e => by
        rw [e] at hcc
        rw [q1, q2, of_decide_eq_true hcc.symm]
      clear hr
      cbv
      repeat' first | with_reducible rfl | with_reducible refine And.intro ?_ ?_ | ((with_reducible intro hcc); first | (cases hcc; done) | skip) | ((with_reducible show goC _ _ _ _ _ _ _ _); cbv) | ((with_reducible show goOps _ _ _ _ _); cbv) | ((with_reducible show okWr _ _ = _); rfl) | ((with_reducible refine hA.row es _ _ ⟨hin, fun row hrow => ?_⟩); rw [e1] at hrow; subst hrow; cbv) | ((with_reducible refine hA.row fs _ _ ⟨hin2, fun row hrow => ?_⟩); rw [e2] at hrow; subst hrow; cbv) | ((with_reducible refine hA.fin_pl _ _ _ ?_); cbv) | ((with_reducible refine hA.len _ _ _ _ _ fun z hz hb => ?_); cbv) | ((with_reducible refine hA.off _ _ _ _ fun b hb => ?_); cbv) | ((with_reducible refine hA.sapp _ _ _ ⟨?_, fun sl hsl => ?_⟩); rotate_left; cbv) | (simp only [hA.natLit, hA.natOf, hA.natCast]; cbv)
      all_goals try simp only [hA.add, hA.sub, hA.mul, hA.neg, hA.div, hA.mod, hA.mn, hA.mx, hA.eq, hA.lt, hA.le, hA.nat, hA.R, hA.lep, hA.ltp, hA.seq, inR, n_cast, Int.ofNat_eq_natCast, Option.getD_some, Option.getD_none] at *
      all_goals first
        | omega
        | (refine hK _ (n - 1) _ (by omega) (Weak.gc (env' := [(5, .int (i + 1)), (4, .bool false), (0, .e (.sl es)), (1, .e (.sl fs))]) ⟨rfl, rfl, rfl, rfl, trivial⟩ rfl) ⟨i + 1, by omega, by omega, fun j hj => ?_, rfl⟩
           by_cases hji : (j : Int) < i
           · exact h2 j hji
           · have : j = i.toNat := by omega
             rw [this]
             exact c2 (by clear hK h2; grind))
        | (clear hK h2 he hf e1 e2; grind; done)
        | (trace_state; fail)
    · have hll : l = l' := by
        refine List.ext_getElem? fun j => ?_
        by_cases hj : (j : Int) < i
        · exact h2 j hj
        · rw [List.getElem?_eq_none (by omega), List.getElem?_eq_none (by omega)]
      have hr2 : r = true := by rw [hr, hll]; simp
      clear hr
      cbv
      repeat' first | with_reducible rfl | with_reducible refine And.intro ?_ ?_ | ((with_reducible intro hcc); first | (cases hcc; done) | skip) | ((with_reducible show goC _ _ _ _ _ _ _ _); cbv) | ((with_reducible show goOps _ _ _ _ _); cbv) | ((with_reducible show okWr _ _ = _); rfl) | (exfalso; simp only [hA.lt, hA.sub, decide_eq_true_eq, decide_eq_false_iff_not, n_cast] at *; omega) | ((with_reducible refine hA.fin_pl _ _ _ ?_); cbv) | ((with_reducible refine hA.len _ _ _ _ _ fun z hz hb => ?_); cbv) | ((with_reducible refine hA.off _ _ _ _ fun b hb => ?_); cbv) | ((with_reducible refine hA.sapp _ _ _ ⟨?_, fun sl hsl => ?_⟩); rotate_left; cbv) | (simp only [hA.natLit, hA.natOf, hA.natCast]; cbv)
      all_goals try simp only [hA.add, hA.sub, hA.mul, hA.neg, hA.div, hA.mod, hA.mn, hA.mx, hA.eq, hA.lt, hA.le, hA.nat, hA.R, hA.lep, hA.ltp, hA.seq, inR, n_cast, Int.ofNat_eq_natCast, Option.getD_some, Option.getD_none] at *
      all_goals first
        | (rw [hr2])
        | omega
        | (clear hK h2 hll he hf; grind; done)
        | (trace_state; fail))
set_option maxRecDepth 100000 in
theorem ok112 (K1 N1 M1 : Int) (S1 T1 : List UInt8) (Ks1 : List Int) (x1 : List (List E)) (hx1 : x1 = Ks1.map ir) (left : Int) (h : 0 ≤ left ∧ left ≤ 1048576) : Plain Try.prog 112 [.agg [.int K1, .int N1, .int M1, .str S1, .str T1, .e (.sl x1)], .int left] (.int (cut left (cN ⟨K1, N1, M1, S1, T1, Ks1⟩))) := okOf mixed p112 fun A P hA hP => (by
  obtain ⟨a, ha⟩ : ∃ a : Int, a = left - S1.length := ⟨_, rfl⟩
  obtain ⟨b, hb⟩ : ∃ b : Int, b = a - T1.length := ⟨_, rfl⟩
  obtain ⟨r, hr⟩ : ∃ r, r = cut left (cN ⟨K1, N1, M1, S1, T1, Ks1⟩) := ⟨_, rfl⟩
  rw [← hr]
  have hs := cI_nonneg Ks1
  have hr2 : r = if b - cI Ks1 < 0 then -1 else b - cI Ks1 := by
    rw [hr, cut]
    show (if left - ((S1.length : Int) + T1.length + cI Ks1) < 0 then (-1 : Int) else left - ((S1.length : Int) + T1.length + cI Ks1)) = _
    rw [show left - ((S1.length : Int) + T1.length + cI Ks1) = b - cI Ks1 by omega]
  clear hr
  by_cases hb0 : b < 0
  · have hrr : r = -1 := by rw [hr2]; split <;> omega
    have hr2 : True := trivial
    cbv
    repeat' first | with_reducible rfl | with_reducible refine And.intro ?_ ?_ | ((with_reducible intro hcc); first | (cases hcc; done) | skip) | ((with_reducible show goC _ _ _ _ _ _ _ _); cbv) | ((with_reducible show goOps _ _ _ _ _); cbv) | ((with_reducible show okWr _ _ = _); rfl) | (exfalso; simp only [hA.lt, hA.sub, decide_eq_true_eq, decide_eq_false_iff_not, n_cast] at *; omega) | ((with_reducible refine hA.fin_pl _ _ _ ?_); cbv) | ((with_reducible refine hA.slen _ _ _ _ _ fun z hz hb => ?_); cbv) | (simp only [hA.natLit, hA.natOf, hA.natCast]; cbv)
    all_goals try simp only [hA.add, hA.sub, hA.mul, hA.neg, hA.div, hA.mod, hA.mn, hA.mx, hA.eq, hA.lt, hA.le, hA.nat, hA.R, hA.lep, hA.ltp, hA.seq, inR, n_cast, Int.ofNat_eq_natCast, Option.getD_some, Option.getD_none] at *
    all_goals first | omega | (rw [hrr]; done) | (clear hr2; simp at *; omega) | (trace_state; fail)
  · have h305 : ∀ c, c = b → Plain Try.prog 161 [.e (.sl x1), .int c] (.int (cut b (cI Ks1))) := fun c hc => hc ▸ ok161 Ks1 _ hx1 b (by omega)
    obtain ⟨u, hu⟩ : ∃ u, u = cut b (cI Ks1) := ⟨_, rfl⟩
    rw [← hu] at h305
    rw [cut] at hu
    rw [← hu] at hr2
    cbv
    repeat' first | with_reducible rfl | with_reducible refine And.intro ?_ ?_ | ((with_reducible intro hcc); first | (cases hcc; done) | skip) | ((with_reducible show goC _ _ _ _ _ _ _ _); cbv) | ((with_reducible show goOps _ _ _ _ _); cbv) | ((with_reducible show okWr _ _ = _); rfl) | ((with_reducible refine callK_eq hA hP ?_ ?_ ?_ (Wks.refl _) (fun _ _ => h305 _ ?_)); exact rfl; exact rfl; cbv) | ((with_reducible refine hA.fin_pl _ _ _ ?_); cbv) | ((with_reducible refine hA.slen _ _ _ _ _ fun z hz hb => ?_); cbv) | (simp only [hA.natLit, hA.natOf, hA.natCast]; cbv)
    all_goals try simp only [hA.add, hA.sub, hA.mul, hA.neg, hA.div, hA.mod, hA.mn, hA.mx, hA.eq, hA.lt, hA.le, hA.nat, hA.R, hA.lep, hA.ltp, hA.seq, inR, n_cast, Int.ofNat_eq_natCast, Option.getD_some, Option.getD_none] at *
    all_goals first | omega | (rw [hr2]; done) | (have : u = -1 := (by simp only [decide_eq_true_eq, decide_eq_false_iff_not] at *; split at hu <;> omega); rw [hr2, this]; done) | (clear h305; simp at *; omega) | (trace_state; fail))
set_option maxRecDepth 100000 in
theorem ok62 (l : List (Nd)) (es : List (List E)) (he : es = l.map ndr) (left : Int) (h : 0 ≤ left ∧ left ≤ 1048576) : Plain Try.prog 62 [.e (.sl es), .int left] (.int (cut left (l.length + sumC cN l))) := okOf mixed p62 fun A P hA hP => (by
  have hl1 : es.length = l.length := by rw [he]; simp
  have hsn : ∀ l : List (Nd), 0 ≤ sumC cN l := sumC_nonneg cN_nonneg
  obtain ⟨r, hr⟩ : ∃ r, r = cut left (l.length + sumC cN l) := ⟨_, rfl⟩
  rw [← hr]
  have hr2 : r = cut (left - es.length) (sumC cN l) := by rw [hr, hl1, cut, cut]; congr 1 <;> (try apply propext) <;> omega
  clear hr
  cbv
  repeat' first | with_reducible rfl | with_reducible refine And.intro ?_ ?_ | ((with_reducible intro hcc); first | (cases hcc; done) | skip) | ((with_reducible show goC _ _ _ _ _ _ _ _); cbv) | ((with_reducible show goOps _ _ _ _ _); cbv) | ((with_reducible show okWr _ _ = _); rfl) | ((with_reducible refine hA.fin_pl _ _ _ ?_); cbv) | ((with_reducible refine hA.len _ _ _ _ _ fun z hz hb => ?_); cbv) | ((with_reducible refine hA.off _ _ _ _ fun b hb => ?_); cbv) | ((with_reducible refine hA.sapp _ _ _ ⟨?_, fun sl hsl => ?_⟩); rotate_left; cbv) | (simp only [hA.natLit, hA.natOf, hA.natCast]; cbv)
  all_goals try simp only [hA.add, hA.sub, hA.mul, hA.neg, hA.div, hA.mod, hA.mn, hA.mx, hA.eq, hA.lt, hA.le, hA.nat, hA.R, hA.lep, hA.ltp, hA.seq, inR, n_cast, Int.ofNat_eq_natCast, Option.getD_some, Option.getD_none] at *
  all_goals try (first | omega | (have := hb trivial trivial trivial; omega) | (have : r = -1 := (by simp only [decide_eq_true_eq] at *; have := hsn l; rw [hr2]; unfold cut; split <;> omega); rw [this]; done))
  · refine hA.loopI (fun n s => ∃ (i lf : Int), 0 ≤ i ∧ n + i = es.length ∧ 0 ≤ lf ∧ lf ≤ 1048576 ∧ r = cut lf (sumC cN (l.drop i.toNat)) ∧
        s = ⟨[(5, .int i), (0, .e (.sl es)), (1, .int lf), (4, .int 0)], []⟩) es.length _
      (Weak.keep (env' := [(5, .int 0), (0, .e (.sl es)), (1, .int (left - z)), (4, .int 0)]) ⟨rfl, rfl, rfl, rfl, trivial⟩) ⟨0, left - z, by omega, by omega, by simp only [decide_eq_false_iff_not] at *; omega, by omega, (by rw [hr2, hz]; rfl), rfl⟩ ?_
    rintro n s K ⟨i, lf, h0, h1, h2, h3, h4, rfl⟩ hK
    clear hr2
    by_cases hin : (0 : Int) ≤ i ∧ i < es.length
    · obtain ⟨⟨K1, N1, M1, S1, T1, Ks1⟩, e1, q1⟩ := row_at he hin
      obtain ⟨x1, hx1⟩ : ∃ x, x = Ks1.map ir := ⟨_, rfl⟩
      have e1 : es.getD i.toNat [] = [E.int K1, E.int N1, E.int M1, E.str S1, E.str T1, E.sl x1] := e1.trans (by rw [hx1])
      rw [sumC_drop q1] at h4
      obtain ⟨S, hS⟩ : ∃ S, S = sumC cN (l.drop (i.toNat + 1)) := ⟨_, rfl⟩
      have hS0 : 0 ≤ S := hS ▸ hsn _
      obtain ⟨c, hcost⟩ : ∃ c, c = cN ⟨K1, N1, M1, S1, T1, Ks1⟩ := ⟨_, rfl⟩
      have hc0 : 0 ≤ c := hcost ▸ cN_nonneg _
      have hc := ok112 K1 N1 M1 S1 T1 Ks1 x1 hx1 lf ⟨h2, h3⟩
      rw [← hS, ← hcost] at h4
      rw [← hcost] at hc
      obtain ⟨u, hu⟩ : ∃ u, u = cut lf c := ⟨_, rfl⟩
      rw [← hu] at hc
      have e8 : (i + 1).toNat = i.toNat + 1 := by omega
      have g1 : u < 0 → r = -1 := fun a => by rw [h4]; unfold cut at hu ⊢; split at hu <;> split <;> omega
      have g2 : 0 ≤ u → r = cut u S ∧ u ≤ lf := fun a => by
        have hu2 : u = lf - c := by rw [hu] at a ⊢; unfold cut at a ⊢; split at a <;> split <;> omega
        refine ⟨?_, by omega⟩
        rw [h4, hu2]
        unfold cut
        rw [show lf - (c + S) = lf - c - S by omega]
      clear h4 hu hcost
      cbv
      repeat' first | with_reducible rfl | with_reducible refine And.intro ?_ ?_ | ((with_reducible intro hcc); first | (cases hcc; done) | skip) | ((with_reducible show goC _ _ _ _ _ _ _ _); cbv) | ((with_reducible show goOps _ _ _ _ _); cbv) | ((with_reducible show okWr _ _ = _); rfl) | ((with_reducible refine callK_eq hA hP ?_ ?_ ?_ (Wks.refl _) (fun _ _ => hc)); exact rfl; exact rfl; cbv) | ((with_reducible refine hA.row es _ _ ⟨hin, fun row hrow => ?_⟩); rw [e1] at hrow; subst hrow; cbv) | ((with_reducible refine hA.fin_pl _ _ _ ?_); cbv) | ((with_reducible refine hA.len _ _ _ _ _ fun z hz hb => ?_); cbv) | ((with_reducible refine hA.off _ _ _ _ fun b hb => ?_); cbv) | ((with_reducible refine hA.sapp _ _ _ ⟨?_, fun sl hsl => ?_⟩); rotate_left; cbv) | (simp only [hA.natLit, hA.natOf, hA.natCast]; cbv)
      all_goals try simp only [hA.add, hA.sub, hA.mul, hA.neg, hA.div, hA.mod, hA.mn, hA.mx, hA.eq, hA.lt, hA.le, hA.nat, hA.R, hA.lep, hA.ltp, hA.seq, inR, n_cast, Int.ofNat_eq_natCast, Option.getD_some, Option.getD_none] at *
      all_goals first
        | omega
        | (clear hK g1 g2 he; simp at *; omega)
        | (rw [g1 (by clear hK g2; simp at *; omega)]; done)
        | (have hu0 : 0 ≤ u := (by clear hK; simp at *; omega)
           exact hK _ (n - 1) _ (by omega) (Weak.keep (env' := [(5, .int (i + 1)), (0, .e (.sl es)), (1, .int u), (4, .int 0)]) ⟨rfl, rfl, rfl, rfl, trivial⟩) ⟨i + 1, u, by omega, by omega, hu0, by have := (g2 hu0).2; omega, by rw [e8, ← hS]; exact (g2 hu0).1, rfl⟩)
        | (clear hK g1 g2 he; simp at *; omega)
        | (trace_state; fail)
    · have hd : l.drop i.toNat = [] := by rw [List.drop_eq_nil_iff]; omega
      rw [hd] at h4
      have h5 : r = lf := by rw [h4, sumC, cut, if_neg (by omega)]; omega
      clear h4 hK
      cbv
      repeat' first | with_reducible rfl | with_reducible refine And.intro ?_ ?_ | ((with_reducible intro hcc); first | (cases hcc; done) | skip) | ((with_reducible show goC _ _ _ _ _ _ _ _); cbv) | ((with_reducible show goOps _ _ _ _ _); cbv) | ((with_reducible show okWr _ _ = _); rfl) | (exfalso; simp only [hA.lt, hA.sub, decide_eq_true_eq, decide_eq_false_iff_not, n_cast] at *; omega) | ((with_reducible refine hA.fin_pl _ _ _ ?_); cbv) | ((with_reducible refine hA.len _ _ _ _ _ fun z hz hb => ?_); cbv) | ((with_reducible refine hA.off _ _ _ _ fun b hb => ?_); cbv) | ((with_reducible refine hA.sapp _ _ _ ⟨?_, fun sl hsl => ?_⟩); rotate_left; cbv) | (simp only [hA.natLit, hA.natOf, hA.natCast]; cbv)
      all_goals try simp only [hA.add, hA.sub, hA.mul, hA.neg, hA.div, hA.mod, hA.mn, hA.mx, hA.eq, hA.lt, hA.le, hA.nat, hA.R, hA.lep, hA.ltp, hA.seq, inR, n_cast, Int.ofNat_eq_natCast, Option.getD_some, Option.getD_none] at *
      all_goals first
        | (rw [h5])
        | omega
        | (clear he; simp at *; omega)
        | (trace_state; fail))
theorem ok22 (ns : List Nd) (x : List (List E)) (hx : x = ns.map ndr) (left : Int) (h : 0 ≤ left ∧ left ≤ 1048576) : Plain Try.prog 22 [.agg [.e (.sl x)], .int left] (.int (cut left (cNS ns))) := okOf mixed p22 fun A P hA hP => (by
  have h227 : Plain Try.prog 62 [.e (.sl x), .int left] (.int (cut left (cNS ns))) := ok62 ns _ hx left h
  obtain ⟨u, hu⟩ : ∃ u, u = cut left (cNS ns) := ⟨_, rfl⟩
  rw [← hu] at h227 ⊢
  have hu2 : u < 0 → u = -1 := fun a => by rw [hu, cut] at a ⊢; split at a <;> split <;> omega
  clear hu
  cbv
  repeat' first | with_reducible rfl | with_reducible refine And.intro ?_ ?_ | ((with_reducible intro hcc); first | (cases hcc; done) | skip) | ((with_reducible show goC _ _ _ _ _ _ _ _); cbv) | ((with_reducible show goOps _ _ _ _ _); cbv) | ((with_reducible show okWr _ _ = _); rfl) | ((with_reducible refine callK_eq hA hP ?_ ?_ ?_ (Wks.refl _) (fun _ _ => h227)); exact rfl; exact rfl; cbv) | ((with_reducible refine hA.fin_pl _ _ _ ?_); cbv) | (simp only [hA.natLit, hA.natOf, hA.natCast]; cbv)
  all_goals try simp only [hA.add, hA.sub, hA.mul, hA.neg, hA.div, hA.mod, hA.mn, hA.mx, hA.eq, hA.lt, hA.le, hA.nat, hA.R, hA.lep, hA.ltp, hA.seq, inR, n_cast, Int.ofNat_eq_natCast, Option.getD_some, Option.getD_none] at *
  all_goals first | rfl | omega | (rw [hu2 (by simp at *; omega)]) | (trace_state; fail))
set_option maxRecDepth 100000 in
theorem ok118 (K1 N1 M1 : Int) (S1 T1 : List UInt8) (Ks1 : List Int) (x1 : List (List E)) (hx1 : x1 = Ks1.map ir) (h1 : Ks1.length ≤ 1048576) : Plain Try.prog 118 [.agg [.int K1, .int N1, .int M1, .str S1, .str T1, .e (.sl x1)]] (.agg [.int K1, .int N1, .int M1, .str S1, .str T1, .e (.sl x1)]) := okOf mixed p118 fun A P hA hP => (by
  have h307 := ok165 Ks1 x1 hx1 (by rw [hx1, List.length_map]; exact h1)
  cbv
  repeat' first | with_reducible rfl | with_reducible refine And.intro ?_ ?_ | ((with_reducible intro hcc); first | (cases hcc; done) | skip) | ((with_reducible show goC _ _ _ _ _ _ _ _); cbv) | ((with_reducible show goOps _ _ _ _ _); cbv) | ((with_reducible show okWr _ _ = _); rfl) | ((with_reducible refine callK_eq hA hP ?_ ?_ ?_ (Wks.refl _) (fun _ _ => h307)); exact rfl; exact rfl; cbv) | ((with_reducible refine hA.fin_pl _ _ _ ?_); cbv) | ((with_reducible refine hA.st _ _ _ _ _ ⟨?_, fun ds hds => ?_⟩); rotate_left; cbv) | (simp only [hA.natLit, hA.natOf, hA.natCast]; cbv)
  all_goals try simp only [hA.add, hA.sub, hA.mul, hA.neg, hA.div, hA.mod, hA.mn, hA.mx, hA.eq, hA.lt, hA.le, hA.nat, hA.R, hA.lep, hA.ltp, hA.seq, inR, n_cast, Int.ofNat_eq_natCast, Option.getD_some, Option.getD_none] at *
  )
set_option maxRecDepth 100000 in
set_option maxHeartbeats 1000000 in
theorem ok67 (l : List (Nd)) (es : List (List E)) (he : es = l.map ndr) (hlen : es.length ≤ 1048576) (hb2 : ∀ d ∈ l, d.Ks.length ≤ 1048576) : Plain Try.prog 67 [.e (.sl es)] (.e (.sl es)) := okOf mixed p67 fun A P hA hP => (by
  have hl1 : es.length = l.length := by rw [he]; simp
  have hes : ∀ e ∈ es, e.length = 6 := by
    rw [he]
    intro e h
    obtain ⟨p, _, rfl⟩ := List.mem_map.1 h
    rfl
  cbv
  repeat' first | with_reducible rfl | with_reducible refine And.intro ?_ ?_ | ((with_reducible intro hcc); first | (cases hcc; done) | skip) | ((with_reducible show goC _ _ _ _ _ _ _ _); cbv) | ((with_reducible show goOps _ _ _ _ _); cbv) | ((with_reducible show okWr _ _ = _); rfl) | ((with_reducible refine hA.fin_pl _ _ _ ?_); cbv) | ((with_reducible refine hA.len _ _ _ _ _ fun z hz hb => ?_); cbv) | ((with_reducible refine hA.off _ _ _ _ fun b hb => ?_); cbv) | ((with_reducible refine hA.rep _ _ _ fun ds m hds hm => ?_); cbv) | ((with_reducible refine hA.st _ _ _ _ _ ⟨?_, fun ds hds => ?_⟩); rotate_left; cbv) | ((with_reducible refine hA.alt _ _ (Or.inl ?_)); cbv) | ((with_reducible refine hA.sapp _ _ _ ⟨?_, fun sl hsl => ?_⟩); rotate_left; cbv) | (simp only [hA.natLit, hA.natOf, hA.natCast]; cbv)
  all_goals try simp only [hA.add, hA.sub, hA.mul, hA.neg, hA.div, hA.mod, hA.mn, hA.mx, hA.eq, hA.lt, hA.le, hA.nat, hA.R, hA.lep, hA.ltp, hA.seq, inR, n_cast, Int.ofNat_eq_natCast, Option.getD_some, Option.getD_none] at *
  · omega
  · omega
  · refine hA.loopI (fun n s => ∃ (i : Int) (xs : List (List E)), 0 ≤ i ∧ n + i = es.length ∧ xs.length = es.length ∧ (∀ e ∈ xs, e.length = 6) ∧ (∀ j : Nat, j < i → xs[j]? = es[j]?) ∧
        s = ⟨[(4, .int i), (3, .bs 0 0 m 6), (2, .zs), (0, .e (.sl es))], [.box (xs.flatten.map .e)]⟩) es.length _
      (Weak.keep (env' := [(4, .int 0), (3, .bs 0 0 m 6), (2, .zs), (0, .e (.sl es))]) ⟨rfl, rfl, rfl, rfl, trivial⟩)
      ⟨0, List.replicate m [E.int 0, E.int 0, E.int 0, E.str [], E.str [], E.sl []], by omega, by omega, by simp; omega, by simp, fun j hj => by omega, by rw [← buf_zero, hm]; rw [hds]; rfl⟩ ?_
    rintro n s K ⟨i, xs, h0, h1, h2, h3, h4, rfl⟩ hK
    obtain ⟨ys, hys⟩ : ∃ ys, ys = xs.flatten.map D.e := ⟨_, rfl⟩
    have hyl : ys.length = xs.length * 6 := by rw [hys, List.length_map, flatten_len h3]
    rw [← hys]
    by_cases hin : (0 : Int) ≤ i ∧ i < es.length
    · obtain ⟨⟨K1, N1, M1, S1, T1, Ks1⟩, e1, q1⟩ := row_at he hin
      obtain ⟨x1, hx1⟩ : ∃ x, x = Ks1.map ir := ⟨_, rfl⟩
      have e1 : es.getD i.toNat [] = [E.int K1, E.int N1, E.int M1, E.str S1, E.str T1, E.sl x1] := e1.trans (by rw [hx1])
      have hc := ok118 K1 N1 M1 S1 T1 Ks1 x1 hx1 (hb2 _ (List.mem_of_getElem? q1))
      have hrow0 : es[i.toNat]? = some (es.getD i.toNat []) := by
        have : i.toNat < es.length := by omega
        simp [List.getD, this]
      have hrl : (es.getD i.toNat []).length = 6 := hes _ (List.mem_of_getElem? hrow0)
      cbv
      repeat' first | with_reducible rfl | with_reducible refine And.intro ?_ ?_ | ((with_reducible intro hcc); first | (cases hcc; done) | skip) | ((with_reducible show goC _ _ _ _ _ _ _ _); cbv) | ((with_reducible show goOps _ _ _ _ _); cbv) | ((with_reducible show okWr _ _ = _); rfl) | ((with_reducible refine callK_eq hA hP ?_ ?_ ?_ (Wks.refl _) (fun _ _ => hc)); exact rfl; exact rfl; cbv) | ((with_reducible refine hA.row es _ _ ⟨hin, fun row hrow => ?_⟩); rw [e1] at hrow; subst hrow; cbv) | ((with_reducible refine hA.fin_pl _ _ _ ?_); cbv) | ((with_reducible refine hA.len _ _ _ _ _ fun z hz hb => ?_); cbv) | ((with_reducible refine hA.off _ _ _ _ fun b hb => ?_); cbv) | ((with_reducible refine hA.rep _ _ _ fun ds m hds hm => ?_); cbv) | ((with_reducible refine hA.st _ _ _ _ _ ⟨?_, fun ds hds => ?_⟩); rotate_left; cbv) | ((with_reducible refine hA.alt _ _ (Or.inl ?_)); cbv) | ((with_reducible refine hA.sapp _ _ _ ⟨?_, fun sl hsl => ?_⟩); rotate_left; cbv) | (simp only [hA.natLit, hA.natOf, hA.natCast]; cbv)
      all_goals try simp only [hA.add, hA.sub, hA.mul, hA.neg, hA.div, hA.mod, hA.mn, hA.mx, hA.eq, hA.lt, hA.le, hA.nat, hA.R, hA.lep, hA.ltp, hA.seq, inR, n_cast, Int.ofNat_eq_natCast, Option.getD_some, Option.getD_none] at *
      all_goals first
        | (show _ < (m : Int); omega)
        | omega
        | (clear hK h4 he; grind; done)
        | (have hb' : b = i.toNat * 6 := by omega
           refine hK _ (n - 1) _ (by omega) (Weak.keep (env' := [(4, .int (i + 1)), (3, .bs 0 0 m 6), (2, .zs), (0, .e (.sl es))]) ⟨rfl, rfl, rfl, rfl, trivial⟩)
             ⟨i + 1, xs.set i.toNat (es.getD i.toNat []), by omega, by omega, by simp [h2], fun e h => ?_, fun j hj => ?_, ?_⟩
           · rcases List.mem_or_eq_of_mem_set h with h | rfl
             · exact h3 e h
             · exact hrl
           · by_cases hji : (j : Int) < i
             · rw [List.getElem?_set_ne (show i.toNat ≠ j by omega)]; exact h4 j hji
             · have : j = i.toNat := by omega
               subst this
               rw [List.getElem?_set_self (show i.toNat < xs.length by omega), hrow0]
           · congr 2
             rw [hds, hys, hb']
             congr 1
             have q := buf_set (k := 6) (by omega) h3 (i := i.toNat) (show i.toNat < xs.length by omega) hrl
             rw [e1] at q ⊢
             exact q)
    · have hxe : xs = es := by
        refine List.ext_getElem? fun j => ?_
        by_cases hj : (j : Int) < i
        · exact h4 j hj
        · rw [List.getElem?_eq_none (by omega), List.getElem?_eq_none (by omega)]
      cbv
      repeat' first | with_reducible rfl | with_reducible refine And.intro ?_ ?_ | ((with_reducible intro hcc); first | (cases hcc; done) | skip) | ((with_reducible show goC _ _ _ _ _ _ _ _); cbv) | ((with_reducible show goOps _ _ _ _ _); cbv) | ((with_reducible show okWr _ _ = _); rfl) | (exfalso; simp only [hA.lt, hA.sub, decide_eq_true_eq, decide_eq_false_iff_not, n_cast] at *; omega) | ((with_reducible refine hA.fin_bs (es := es) ?_ ?_ hes)) | ((with_reducible refine hA.fin_pl _ _ _ ?_); cbv) | ((with_reducible refine hA.len _ _ _ _ _ fun z hz hb => ?_); cbv) | ((with_reducible refine hA.off _ _ _ _ fun b hb => ?_); cbv) | ((with_reducible refine hA.rep _ _ _ fun ds m hds hm => ?_); cbv) | ((with_reducible refine hA.st _ _ _ _ _ ⟨?_, fun ds hds => ?_⟩); rotate_left; cbv) | ((with_reducible refine hA.alt _ _ (Or.inl ?_)); cbv) | ((with_reducible refine hA.sapp _ _ _ ⟨?_, fun sl hsl => ?_⟩); rotate_left; cbv) | (simp only [hA.natLit, hA.natOf, hA.natCast]; cbv)
      all_goals try simp only [hA.add, hA.sub, hA.mul, hA.neg, hA.div, hA.mod, hA.mn, hA.mx, hA.eq, hA.lt, hA.le, hA.nat, hA.R, hA.lep, hA.ltp, hA.seq, inR, n_cast, Int.ofNat_eq_natCast, Option.getD_some, Option.getD_none] at *
      all_goals first
        | (rw [hys, hxe]; rfl)
        | omega
        | (clear hK h4 he; grind; done)
        | (trace_state; fail))
theorem ok24 (ns : List Nd) (x : List (List E)) (hx : x = ns.map ndr) (h1 : ns.length ≤ 1048576) (h2 : ∀ d ∈ ns, d.Ks.length ≤ 1048576) : Plain Try.prog 24 [.agg [.e (.sl x)]] (.agg [.e (.sl x)]) := okOf mixed p24 fun A P hA hP => (by
  have h232 := ok67 ns x hx (by rw [hx, List.length_map]; exact h1) h2
  cbv
  repeat' first | with_reducible rfl | with_reducible refine And.intro ?_ ?_ | ((with_reducible intro hcc); first | (cases hcc; done) | skip) | ((with_reducible show goC _ _ _ _ _ _ _ _); cbv) | ((with_reducible show goOps _ _ _ _ _); cbv) | ((with_reducible show okWr _ _ = _); rfl) | ((with_reducible refine callK_eq hA hP ?_ ?_ ?_ (Wks.refl _) (fun _ _ => h232)); exact rfl; exact rfl; cbv) | ((with_reducible refine hA.fin_pl _ _ _ ?_); cbv) | ((with_reducible refine hA.st _ _ _ _ _ ⟨?_, fun ds hds => ?_⟩); rotate_left; cbv) | (simp only [hA.natLit, hA.natOf, hA.natCast]; cbv)
  all_goals try simp only [hA.add, hA.sub, hA.mul, hA.neg, hA.div, hA.mod, hA.mn, hA.mx, hA.eq, hA.lt, hA.le, hA.nat, hA.R, hA.lep, hA.ltp, hA.seq, inR, n_cast, Int.ofNat_eq_natCast, Option.getD_some, Option.getD_none] at *
  )
set_option maxRecDepth 100000 in
theorem ok125 (K1 N1 M1 : Int) (S1 T1 : List UInt8) (Ks1 : List Int) (x1 : List (List E)) (hx1 : x1 = Ks1.map ir) (K2 N2 M2 : Int) (S2 T2 : List UInt8) (Ks2 : List Int) (x2 : List (List E)) (hx2 : x2 = Ks2.map ir) :
    Plain Try.prog 125 [.agg [.int K1, .int N1, .int M1, .str S1, .str T1, .e (.sl x1)], .agg [.int K2, .int N2, .int M2, .str S2, .str T2, .e (.sl x2)]] (.bool (decide ((⟨K1, N1, M1, S1, T1, Ks1⟩ : Nd) = ⟨K2, N2, M2, S2, T2, Ks2⟩))) := okOf mixed p125 fun A P hA hP => (by
  have h310 := ok171 Ks1 Ks2 x1 x2 hx1 hx2
  obtain ⟨c, hc⟩ : ∃ c, c = decide (Ks1 = Ks2) := ⟨_, rfl⟩
  rw [← hc] at h310
  obtain ⟨r, hr⟩ : ∃ r, r = decide ((⟨K1, N1, M1, S1, T1, Ks1⟩ : Nd) = ⟨K2, N2, M2, S2, T2, Ks2⟩) := ⟨_, rfl⟩
  rw [← hr]
  have hr2 : r = (decide (K1 = K2) && (decide (N1 = N2) && (decide (M1 = M2) && (decide (S1 = S2) && (decide (T1 = T2) && c))))) := by rw [hr, hc]; simp
  clear hr hc
  cbv
  repeat' first | with_reducible rfl | with_reducible refine And.intro ?_ ?_ | ((with_reducible intro hcc); first | (cases hcc; done) | skip) | ((with_reducible show goC _ _ _ _ _ _ _ _); cbv) | ((with_reducible show goOps _ _ _ _ _); cbv) | ((with_reducible show okWr _ _ = _); rfl) | ((with_reducible refine callK_eq hA hP ?_ ?_ ?_ (Wks.refl _) (fun _ _ => h310)); exact rfl; exact rfl; cbv) | ((with_reducible refine hA.fin_pl _ _ _ ?_); cbv) | (simp only [hA.natLit, hA.natOf, hA.natCast]; cbv)
  all_goals try simp only [hA.add, hA.sub, hA.mul, hA.neg, hA.div, hA.mod, hA.mn, hA.mx, hA.eq, hA.lt, hA.le, hA.nat, hA.R, hA.lep, hA.ltp, hA.seq, inR, n_cast, Int.ofNat_eq_natCast, Option.getD_some, Option.getD_none] at *
  all_goals first | rfl | (clear h310; grind; done) | (clear h310; simp at *; grind; done) | (trace_state; fail))
set_option maxRecDepth 100000 in
theorem ok70 (l l' : List (Nd)) (es fs : List (List E)) (he : es = l.map ndr) (hf : fs = l'.map ndr) : Plain Try.prog 70 [.e (.sl es), .e (.sl fs)] (.bool (decide (l = l'))) := okOf mixed p70 fun A P hA hP => (by
  obtain ⟨r, hr⟩ : ∃ r : Bool, r = decide (l = l') := ⟨_, rfl⟩
  rw [← hr]
  have hl1 : es.length = l.length := by rw [he]; simp
  have hl2 : fs.length = l'.length := by rw [hf]; simp
  cbv
  repeat' first | with_reducible rfl | with_reducible refine And.intro ?_ ?_ | ((with_reducible intro hcc); first | (cases hcc; done) | skip) | ((with_reducible show goC _ _ _ _ _ _ _ _); cbv) | ((with_reducible show goOps _ _ _ _ _); cbv) | ((with_reducible show okWr _ _ = _); rfl) | ((with_reducible refine hA.fin_pl _ _ _ ?_); cbv) | ((with_reducible refine hA.len _ _ _ _ _ fun z hz hb => ?_); cbv) | ((with_reducible refine hA.off _ _ _ _ fun b hb => ?_); cbv) | ((with_reducible refine hA.sapp _ _ _ ⟨?_, fun sl hsl => ?_⟩); rotate_left; cbv) | (simp only [hA.natLit, hA.natOf, hA.natCast]; cbv)
  all_goals try simp only [hA.add, hA.sub, hA.mul, hA.neg, hA.div, hA.mod, hA.mn, hA.mx, hA.eq, hA.lt, hA.le, hA.nat, hA.R, hA.lep, hA.ltp, hA.seq, inR, n_cast, Int.ofNat_eq_natCast, Option.getD_some, Option.getD_none] at *
  · have : l ≠ l' := fun e => by subst e; clear hr; grind
    rw [hr]; simp [this]
  · have hzz : es.length = fs.length := by clear hr; grind
    refine hA.loopI (fun n s => ∃ i : Int, 0 ≤ i ∧ n + i = l.length ∧ (∀ j : Nat, j < i → l[j]? = l'[j]?) ∧ s = ⟨[(5, .int i), (4, .bool false), (0, .e (.sl es)), (1, .e (.sl fs))], []⟩) l.length _ (Weak.keep (env' := [(5, .int 0), (4, .bool false), (0, .e (.sl es)), (1, .e (.sl fs))]) ⟨rfl, rfl, rfl, rfl, trivial⟩) ⟨0, by omega, by omega, fun j hj => by omega, rfl⟩ ?_
    rintro n s K ⟨i, h0, h1, h2, rfl⟩ hK
    by_cases hin : (0 : Int) ≤ i ∧ i < es.length
    · have hin2 : (0 : Int) ≤ i ∧ i < fs.length := by omega
      obtain ⟨⟨K1, N1, M1, S1, T1, Ks1⟩, e1, q1⟩ := row_at he hin
      obtain ⟨⟨K2, N2, M2, S2, T2, Ks2⟩, e2, q2⟩ := row_at hf hin2
      obtain ⟨x1, hx1⟩ : ∃ x, x = Ks1.map ir := ⟨_, rfl⟩
      have e1 : es.getD i.toNat [] = [E.int K1, E.int N1, E.int M1, E.str S1, E.str T1, E.sl x1] := e1.trans (by rw [hx1])
      obtain ⟨x2, hx2⟩ : ∃ x, x = Ks2.map ir := ⟨_, rfl⟩
      have e2 : fs.getD i.toNat [] = [E.int K2, E.int N2, E.int M2, E.str S2, E.str T2, E.sl x2] := e2.trans (by rw [hx2])
      have hc := ok125 K1 N1 M1 S1 T1 Ks1 x1 hx1 K2 N2 M2 S2 T2 Ks2 x2 hx2
      obtain ⟨c, hcc⟩ : ∃ c : Bool, c = decide ((⟨K1, N1, M1, S1, T1, Ks1⟩ : Nd) = ⟨K2, N2, M2, S2, T2, Ks2⟩) := ⟨_, rfl⟩
      rw [← hcc] at hc
      have c1 : c = false → r = false := fun e => by
        rw [hr, decide_eq_false_iff_not]
        intro e'
        subst e'
        rw [q1] at q2
        cases q2
        rw [e] at hcc
        simp at hcc
      have c2 : c = true → l[i.toNat]? = l'[i.toNat]? := fun e => by
        rw [e] at hcc
        rw [q1, q2, of_decide_eq_true hcc.symm]
      clear hcc hr
      cbv
      repeat' first | with_reducible rfl | with_reducible refine And.intro ?_ ?_ | ((with_reducible intro hcc); first | (cases hcc; done) | skip) | ((with_reducible show goC _ _ _ _ _ _ _ _); cbv) | ((with_reducible show goOps _ _ _ _ _); cbv) | ((with_reducible show okWr _ _ = _); rfl) | ((with_reducible refine callK_eq hA hP ?_ ?_ ?_ (Wks.refl _) (fun _ _ => hc)); exact rfl; exact rfl; cbv) | ((with_reducible refine hA.row es _ _ ⟨hin, fun row hrow => ?_⟩); rw [e1] at hrow; subst hrow; cbv) | ((with_reducible refine hA.row fs _ _ ⟨hin2, fun row hrow => ?_⟩); rw [e2] at hrow; subst hrow; cbv) | ((with_reducible refine hA.fin_pl _ _ _ ?_); cbv) | ((with_reducible refine hA.len _ _ _ _ _ fun z hz hb => ?_); cbv) | ((with_reducible refine hA.off _ _ _ _ fun b hb => ?_); cbv) | ((with_reducible refine hA.sapp _ _ _ ⟨?_, fun sl hsl => ?_⟩); rotate_left; cbv) | (simp only [hA.natLit, hA.natOf, hA.natCast]; cbv)
      all_goals try simp only [hA.add, hA.sub, hA.mul, hA.neg, hA.div, hA.mod, hA.mn, hA.mx, hA.eq, hA.lt, hA.le, hA.nat, hA.R, hA.lep, hA.ltp, hA.seq, inR, n_cast, Int.ofNat_eq_natCast, Option.getD_some, Option.getD_none] at *
      all_goals first
        | omega
        | (refine hK _ (n - 1) _ (by omega) (Weak.gc (env' := [(5, .int (i + 1)), (4, .bool false), (0, .e (.sl es)), (1, .e (.sl fs))]) ⟨rfl, rfl, rfl, rfl, trivial⟩ rfl) ⟨i + 1, by omega, by omega, fun j hj => ?_, rfl⟩
           by_cases hji : (j : Int) < i
           · exact h2 j hji
           · have : j = i.toNat := by omega
             rw [this]
             exact c2 (by clear hK h2; grind))
        | (clear hK h2 he hf e1 e2; grind; done)
        | (trace_state; fail)
    · have hll : l = l' := by
        refine List.ext_getElem? fun j => ?_
        by_cases hj : (j : Int) < i
        · exact h2 j hj
        · rw [List.getElem?_eq_none (by omega), List.getElem?_eq_none (by omega)]
      have hr2 : r = true := by rw [hr, hll]; simp
      clear hr
      cbv
      repeat' first | with_reducible rfl | with_reducible refine And.intro ?_ ?_ | ((with_reducible intro hcc); first | (cases hcc; done) | skip) | ((with_reducible show goC _ _ _ _ _ _ _ _); cbv) | ((with_reducible show goOps _ _ _ _ _); cbv) | ((with_reducible show okWr _ _ = _); rfl) | (exfalso; simp only [hA.lt, hA.sub, decide_eq_true_eq, decide_eq_false_iff_not, n_cast] at *; omega) | ((with_reducible refine hA.fin_pl _ _ _ ?_); cbv) | ((with_reducible refine hA.len _ _ _ _ _ fun z hz hb => ?_); cbv) | ((with_reducible refine hA.off _ _ _ _ fun b hb => ?_); cbv) | ((with_reducible refine hA.sapp _ _ _ ⟨?_, fun sl hsl => ?_⟩); rotate_left; cbv) | (simp only [hA.natLit, hA.natOf, hA.natCast]; cbv)
      all_goals try simp only [hA.add, hA.sub, hA.mul, hA.neg, hA.div, hA.mod, hA.mn, hA.mx, hA.eq, hA.lt, hA.le, hA.nat, hA.R, hA.lep, hA.ltp, hA.seq, inR, n_cast, Int.ofNat_eq_natCast, Option.getD_some, Option.getD_none] at *
      all_goals first
        | (rw [hr2])
        | omega
        | (clear hK h2 hll he hf; grind; done)
        | (trace_state; fail))
theorem ok26 (ns ns' : List Nd) (x x' : List (List E)) (hx : x = ns.map ndr) (hx' : x' = ns'.map ndr) : Plain Try.prog 26 [.agg [.e (.sl x)], .agg [.e (.sl x')]] (.bool (decide (ns = ns'))) := okOf mixed p26 fun A P hA hP => (by
  have h235 := ok70 ns ns' x x' hx hx'
  obtain ⟨c, hc⟩ : ∃ c, c = decide (ns = ns') := ⟨_, rfl⟩
  rw [← hc] at h235 ⊢
  cbv
  repeat' first | with_reducible rfl | with_reducible refine And.intro ?_ ?_ | ((with_reducible intro hcc); first | (cases hcc; done) | skip) | ((with_reducible show goC _ _ _ _ _ _ _ _); cbv) | ((with_reducible show goOps _ _ _ _ _); cbv) | ((with_reducible show okWr _ _ = _); rfl) | ((with_reducible refine callK_eq hA hP ?_ ?_ ?_ (Wks.refl _) (fun _ _ => h235)); exact rfl; exact rfl; cbv) | ((with_reducible refine hA.fin_pl _ _ _ ?_); cbv) | (simp only [hA.natLit, hA.natOf, hA.natCast]; cbv)
  all_goals try simp only [hA.add, hA.sub, hA.mul, hA.neg, hA.div, hA.mod, hA.mn, hA.mx, hA.eq, hA.lt, hA.le, hA.nat, hA.R, hA.lep, hA.ltp, hA.seq, inR, n_cast, Int.ofNat_eq_natCast, Option.getD_some, Option.getD_none] at *
  all_goals first | rfl | (clear h235 hc; grind; done) | (trace_state; fail))
end Go.Proofs.Ytfplalbognalkaa.Ab
/- Names: letters, digits, words, keys. -/
namespace Go.Proofs.Ytfplalbognalkaa.Ab
open Go
theorem ok192 (c : Int) : Plain Try.prog 192 [.u8 c] (.bool (isLet c)) := okOf mixed p192 fun A P hA hP => (by
  obtain ⟨r, hr⟩ : ∃ r, r = isLet c := ⟨_, rfl⟩
  rw [← hr]
  cbv
  repeat' first | with_reducible rfl | with_reducible refine And.intro ?_ ?_ | ((with_reducible intro hcc); first | (cases hcc; done) | skip) | ((with_reducible show goC _ _ _ _ _ _ _ _); cbv) | ((with_reducible show goOps _ _ _ _ _); cbv) | ((with_reducible show okWr _ _ = _); rfl) | ((with_reducible refine hA.fin_pl _ _ _ ?_); cbv) | ((with_reducible refine hA.gb0 true _ ?_); cbv) | ((with_reducible refine hA.gb0 false _ ?_); cbv) | ((with_reducible refine hA.gb _ _ fun vb hvb => ?_); cbv) | (simp only [hA.natLit, hA.natOf, hA.natCast]; cbv)
  all_goals try simp only [hA.add, hA.sub, hA.mul, hA.neg, hA.div, hA.mod, hA.mn, hA.mx, hA.eq, hA.lt, hA.le, hA.nat, hA.R, hA.lep, hA.ltp, hA.seq, inR, n_cast, Int.ofNat_eq_natCast, Option.getD_some, Option.getD_none] at *
  all_goals (unfold isLet at hr; first | (subst hr; grind; done) | (subst hr; simp at *; grind; done) | (subst hr; congr; by_cases a : 97 ≤ c <;> by_cases b : 65 ≤ c <;> simp [a, b] <;> grind)))
theorem ok166 (c : Int) : Plain Try.prog 166 [.u8 c] (.bool (isLet c)) := okOf mixed p166 fun A P hA hP => (by
  obtain ⟨r, hr⟩ : ∃ r, r = isLet c := ⟨_, rfl⟩
  rw [← hr]
  cbv
  repeat' first | with_reducible rfl | with_reducible refine And.intro ?_ ?_ | ((with_reducible intro hcc); first | (cases hcc; done) | skip) | ((with_reducible show goC _ _ _ _ _ _ _ _); cbv) | ((with_reducible show goOps _ _ _ _ _); cbv) | ((with_reducible show okWr _ _ = _); rfl) | ((with_reducible refine hA.fin_pl _ _ _ ?_); cbv) | ((with_reducible refine hA.gb0 true _ ?_); cbv) | ((with_reducible refine hA.gb0 false _ ?_); cbv) | ((with_reducible refine hA.gb _ _ fun vb hvb => ?_); cbv) | (simp only [hA.natLit, hA.natOf, hA.natCast]; cbv)
  all_goals try simp only [hA.add, hA.sub, hA.mul, hA.neg, hA.div, hA.mod, hA.mn, hA.mx, hA.eq, hA.lt, hA.le, hA.nat, hA.R, hA.lep, hA.ltp, hA.seq, inR, n_cast, Int.ofNat_eq_natCast, Option.getD_some, Option.getD_none] at *
  all_goals (unfold isLet at hr; first | (subst hr; grind; done) | (subst hr; simp at *; grind; done) | (subst hr; congr; by_cases a : 97 ≤ c <;> by_cases b : 65 ≤ c <;> simp [a, b] <;> grind)))
theorem ok193 (c : Int) : Plain Try.prog 193 [.u8 c] (.bool (isDig c)) := okOf mixed p193 fun A P hA hP => (by
  obtain ⟨r, hr⟩ : ∃ r, r = isDig c := ⟨_, rfl⟩
  rw [← hr]
  cbv
  repeat' first | with_reducible rfl | with_reducible refine And.intro ?_ ?_ | ((with_reducible intro hcc); first | (cases hcc; done) | skip) | ((with_reducible show goC _ _ _ _ _ _ _ _); cbv) | ((with_reducible show goOps _ _ _ _ _); cbv) | ((with_reducible show okWr _ _ = _); rfl) | ((with_reducible refine hA.fin_pl _ _ _ ?_); cbv) | ((with_reducible refine hA.gb0 true _ ?_); cbv) | ((with_reducible refine hA.gb0 false _ ?_); cbv) | ((with_reducible refine hA.gb _ _ fun vb hvb => ?_); cbv) | (simp only [hA.natLit, hA.natOf, hA.natCast]; cbv)
  all_goals try simp only [hA.add, hA.sub, hA.mul, hA.neg, hA.div, hA.mod, hA.mn, hA.mx, hA.eq, hA.lt, hA.le, hA.nat, hA.R, hA.lep, hA.ltp, hA.seq, inR, n_cast, Int.ofNat_eq_natCast, Option.getD_some, Option.getD_none] at *
  all_goals (unfold isDig at hr; first | (subst hr; grind; done) | (subst hr; simp at *; grind; done) | (subst hr; congr; by_cases a : 97 ≤ c <;> by_cases b : 65 ≤ c <;> simp [a, b] <;> grind)))
theorem ok168 (c : Int) : Plain Try.prog 168 [.u8 c] (.bool (isDig c)) := okOf mixed p168 fun A P hA hP => (by
  obtain ⟨r, hr⟩ : ∃ r, r = isDig c := ⟨_, rfl⟩
  rw [← hr]
  cbv
  repeat' first | with_reducible rfl | with_reducible refine And.intro ?_ ?_ | ((with_reducible intro hcc); first | (cases hcc; done) | skip) | ((with_reducible show goC _ _ _ _ _ _ _ _); cbv) | ((with_reducible show goOps _ _ _ _ _); cbv) | ((with_reducible show okWr _ _ = _); rfl) | ((with_reducible refine hA.fin_pl _ _ _ ?_); cbv) | ((with_reducible refine hA.gb0 true _ ?_); cbv) | ((with_reducible refine hA.gb0 false _ ?_); cbv) | ((with_reducible refine hA.gb _ _ fun vb hvb => ?_); cbv) | (simp only [hA.natLit, hA.natOf, hA.natCast]; cbv)
  all_goals try simp only [hA.add, hA.sub, hA.mul, hA.neg, hA.div, hA.mod, hA.mn, hA.mx, hA.eq, hA.lt, hA.le, hA.nat, hA.R, hA.lep, hA.ltp, hA.seq, inR, n_cast, Int.ofNat_eq_natCast, Option.getD_some, Option.getD_none] at *
  all_goals (unfold isDig at hr; first | (subst hr; grind; done) | (subst hr; simp at *; grind; done) | (subst hr; congr; by_cases a : 97 ≤ c <;> by_cases b : 65 ≤ c <;> simp [a, b] <;> grind)))
set_option maxRecDepth 100000 in
set_option maxHeartbeats 4000000 in
theorem ok164 (s : List UInt8) : Plain Try.prog 164 [.str s] (.bool (keyB s)) := okOf mixed p164 fun A P hA hP => (by
  obtain ⟨r, hr⟩ : ∃ r, r = keyB s := ⟨_, rfl⟩
  rw [← hr]
  cbv
  repeat' first | with_reducible rfl | with_reducible refine And.intro ?_ ?_ | ((with_reducible intro hcc); first | (cases hcc; done) | skip) | ((with_reducible show goC _ _ _ _ _ _ _ _); cbv) | ((with_reducible show goOps _ _ _ _ _); cbv) | ((with_reducible show okWr _ _ = _); rfl) | ((with_reducible refine hA.fin_pl _ _ _ ?_); cbv) | ((with_reducible refine hA.gb0 true _ ?_); cbv) | ((with_reducible refine hA.gb0 false _ ?_); cbv) | ((with_reducible refine hA.gb _ _ fun vb hvb => ?_); cbv) | (simp only [hA.natLit, hA.natOf, hA.natCast]; cbv)
  all_goals try simp only [hA.add, hA.sub, hA.mul, hA.neg, hA.div, hA.mod, hA.mn, hA.mx, hA.eq, hA.lt, hA.le, hA.nat, hA.R, hA.lep, hA.ltp, hA.seq, inR, n_cast, Int.ofNat_eq_natCast, Option.getD_some, Option.getD_none] at *
  all_goals try (clear hr; grind; done)
  all_goals
    rw [hr]
    congr 3
    rw [Bool.eq_iff_iff]
    subst_vars
    first
      | (simp only [Bool.if_true_left, Bool.or_eq_true, decide_eq_true_eq, keyB, or_assoc]; done)
      | (simp_all [keyB]; done))
set_option maxRecDepth 100000 in
set_option maxHeartbeats 4000000 in
theorem ok167 (s : List UInt8) : Plain Try.prog 167 [.str s] (.bool (keyB s)) := okOf mixed p167 fun A P hA hP => (by
  obtain ⟨r, hr⟩ : ∃ r, r = keyB s := ⟨_, rfl⟩
  rw [← hr]
  cbv
  repeat' first | with_reducible rfl | with_reducible refine And.intro ?_ ?_ | ((with_reducible intro hcc); first | (cases hcc; done) | skip) | ((with_reducible show goC _ _ _ _ _ _ _ _); cbv) | ((with_reducible show goOps _ _ _ _ _); cbv) | ((with_reducible show okWr _ _ = _); rfl) | ((with_reducible refine hA.fin_pl _ _ _ ?_); cbv) | (simp only [hA.natLit, hA.natOf, hA.natCast]; cbv)
  all_goals try simp only [hA.add, hA.sub, hA.mul, hA.neg, hA.div, hA.mod, hA.mn, hA.mx, hA.eq, hA.lt, hA.le, hA.nat, hA.R, hA.lep, hA.ltp, hA.seq, inR, n_cast, Int.ofNat_eq_natCast, Option.getD_some, Option.getD_none] at *
  all_goals try (clear hr; grind; done)
  all_goals
    rw [hr]
    congr 3
    rw [Bool.eq_iff_iff]
    subst_vars
    first
      | (simp only [Bool.if_true_left, Bool.or_eq_true, decide_eq_true_eq, keyB, or_assoc]; done)
      | (simp_all [keyB]; done))
end Go.Proofs.Ytfplalbognalkaa.Ab
/- Names: valid, by the specification and by the program. -/
namespace Go.Proofs.Ytfplalbognalkaa.Ab
open Go
set_option maxRecDepth 100000 in
set_option maxHeartbeats 1000000 in
theorem ok163 (s : List UInt8) : Plain Try.prog 163 [.str s] (.bool (isWord s)) := okOf mixed p163 fun A P hA hP => (by
  obtain ⟨r, hr⟩ : ∃ r, r = isWord s := ⟨_, rfl⟩
  rw [← hr]
  cbv
  repeat' first | with_reducible rfl | with_reducible refine And.intro ?_ ?_ | ((with_reducible intro hcc); first | (cases hcc; done) | skip) | ((with_reducible show goC _ _ _ _ _ _ _ _); cbv) | ((with_reducible show goOps _ _ _ _ _); cbv) | ((with_reducible show okWr _ _ = _); rfl) | ((with_reducible refine hA.fin_pl _ _ _ ?_); cbv) | ((with_reducible refine hA.slen _ _ _ _ _ fun z hz hb => ?_); cbv) | ((with_reducible refine hA.six _ _ _ fun z6 c hz6 hc hc2 => ?_); cbv) | ((with_reducible refine hA.sapp _ _ _ ⟨?_, fun sl hsl => ?_⟩); rotate_left; cbv) | ((with_reducible refine hA.gb0 true _ ?_); cbv) | ((with_reducible refine hA.gb0 false _ ?_); cbv) | ((with_reducible refine hA.gb _ _ fun vb hvb => ?_); cbv) | (simp only [hA.natLit, hA.natOf, hA.natCast]; cbv)
  all_goals try simp only [hA.add, hA.sub, hA.mul, hA.neg, hA.div, hA.mod, hA.mn, hA.mx, hA.eq, hA.lt, hA.le, hA.nat, hA.R, hA.lep, hA.ltp, hA.seq, inR, n_cast, Int.ofNat_eq_natCast, Option.getD_some, Option.getD_none] at *
  refine hA.loopI (fun n st => ∃ i : Int, 0 ≤ i ∧ n + i = s.length ∧ (∀ j : Nat, j < i → okAt s j = true) ∧ st = ⟨[(3, .int i), (2, .bool false), (0, .str s)], []⟩) s.length _
    (Weak.keep (env' := [(3, .int 0), (2, .bool false), (0, .str s)]) ⟨rfl, rfl, rfl, trivial⟩) ⟨0, by omega, by omega, fun j hj => by omega, rfl⟩ ?_
  rintro n st K ⟨i, h0, h1, h2, rfl⟩ hK
  by_cases hin : i < s.length
  · obtain ⟨cN, hcN⟩ : ∃ cN, cN = (s.getD i.toNat 0).toNat := ⟨_, rfl⟩
    have hch : chAt s i.toNat = (cN : Int) := by rw [chAt, hcN]
    have e102 := ok192 (cN : Int)
    have e103 := ok193 (cN : Int)
    obtain ⟨bl, hbl⟩ : ∃ b, b = isLet (cN : Int) := ⟨_, rfl⟩
    obtain ⟨bd, hbd⟩ : ∃ b, b = isDig (cN : Int) := ⟨_, rfl⟩
    rw [← hbl] at e102
    rw [← hbd] at e103
    obtain ⟨o, ho⟩ : ∃ o, o = okAt s i.toNat := ⟨_, rfl⟩
    have ho2 : o = (bl || (decide (i ≠ 0) && (bd || decide ((cN : Int) = 95)))) := by
      rw [ho, okAt, hch, ← hbl, ← hbd]
      have : decide (i.toNat ≠ 0) = decide (i ≠ 0) := by rw [decide_eq_decide]; omega
      rw [this]
    have f1 : o = false → r = false := fun e => by
      rw [hr, isWord, decide_eq_false_iff_not]
      intro ⟨_, q⟩
      have := q i.toNat (by omega)
      rw [← ho, e] at this
      cases this
    have f2 : o = true → ∀ s1, Weak (hpF []) s1 ⟨[(3, .int (i + 1)), (2, .bool false), (0, .str s)], []⟩ → K s1 := fun e s1 hw => by
      refine hK s1 (n - 1) _ (by omega) hw ⟨i + 1, by omega, by omega, fun j hj => ?_, rfl⟩
      by_cases hji : (j : Int) < i
      · exact h2 j hji
      · have : j = i.toNat := by omega
        rw [this, ← ho]; exact e
    clear hK h2 hr ho hbl hbd hch
    cbv
    repeat' first | with_reducible rfl | with_reducible refine And.intro ?_ ?_ | ((with_reducible intro hcc); first | (cases hcc; done) | skip) | ((with_reducible show goC _ _ _ _ _ _ _ _); cbv) | ((with_reducible show goOps _ _ _ _ _); cbv) | ((with_reducible show okWr _ _ = _); rfl) | ((with_reducible refine callK_eq hA hP ?_ ?_ ?_ (Wks.refl _) (fun _ _ => e102)); exact rfl; exact rfl; cbv) | ((with_reducible refine callK_eq hA hP ?_ ?_ ?_ (Wks.refl _) (fun _ _ => e103)); exact rfl; exact rfl; cbv) | ((with_reducible refine hA.six _ _ _ fun z6 c hz6 hc hc2 => ?_); (have e6 : cN = c := (by rw [hc, hcN])); subst e6; cbv) | ((with_reducible refine hA.fin_pl _ _ _ ?_); cbv) | ((with_reducible refine hA.slen _ _ _ _ _ fun z hz hb => ?_); cbv) | ((with_reducible refine hA.six _ _ _ fun z6 c hz6 hc hc2 => ?_); cbv) | ((with_reducible refine hA.sapp _ _ _ ⟨?_, fun sl hsl => ?_⟩); rotate_left; cbv) | ((with_reducible refine hA.gb0 true _ ?_); cbv) | ((with_reducible refine hA.gb0 false _ ?_); cbv) | ((with_reducible refine hA.gb _ _ fun vb hvb => ?_); cbv) | (simp only [hA.natLit, hA.natOf, hA.natCast]; cbv)
    all_goals try simp only [hA.add, hA.sub, hA.mul, hA.neg, hA.div, hA.mod, hA.mn, hA.mx, hA.eq, hA.lt, hA.le, hA.nat, hA.R, hA.lep, hA.ltp, hA.seq, inR, n_cast, Int.ofNat_eq_natCast, Option.getD_some, Option.getD_none] at *
    all_goals first
      | omega
      | (refine f2 ?_ _ (Weak.keep ⟨rfl, rfl, rfl, trivial⟩); clear f2 f1 hcN hc; grind; done)
      | (rw [f1 (by clear f2 f1 hcN hc; grind)]; done)
      | (clear f2 f1 hcN hc; grind; done)
      | (clear f2 f1 hcN; simp at *; omega)
      | (trace_state; fail)
  · have hr2 : r = decide (0 < s.length) := by
      rw [hr, isWord, decide_eq_decide]
      exact ⟨fun q => q.1, fun q => ⟨q, fun j hj => h2 j (by omega)⟩⟩
    clear hr hK h2
    cbv
    repeat' first | with_reducible rfl | with_reducible refine And.intro ?_ ?_ | ((with_reducible intro hcc); first | (cases hcc; done) | skip) | ((with_reducible show goC _ _ _ _ _ _ _ _); cbv) | ((with_reducible show goOps _ _ _ _ _); cbv) | ((with_reducible show okWr _ _ = _); rfl) | (exfalso; simp only [hA.lt, hA.sub, decide_eq_true_eq, decide_eq_false_iff_not, n_cast] at *; omega) | ((with_reducible refine hA.fin_pl _ _ _ ?_); cbv) | ((with_reducible refine hA.slen _ _ _ _ _ fun z hz hb => ?_); cbv) | ((with_reducible refine hA.six _ _ _ fun z6 c hz6 hc hc2 => ?_); cbv) | ((with_reducible refine hA.sapp _ _ _ ⟨?_, fun sl hsl => ?_⟩); rotate_left; cbv) | ((with_reducible refine hA.gb0 true _ ?_); cbv) | ((with_reducible refine hA.gb0 false _ ?_); cbv) | ((with_reducible refine hA.gb _ _ fun vb hvb => ?_); cbv) | (simp only [hA.natLit, hA.natOf, hA.natCast]; cbv)
    all_goals try simp only [hA.add, hA.sub, hA.mul, hA.neg, hA.div, hA.mod, hA.mn, hA.mx, hA.eq, hA.lt, hA.le, hA.nat, hA.R, hA.lep, hA.ltp, hA.seq, inR, n_cast, Int.ofNat_eq_natCast, Option.getD_some, Option.getD_none] at *
    all_goals first
      | (rw [hr2]; congr 3; rw [decide_eq_decide]; omega)
      | omega
      | (trace_state; fail))
theorem ok115 (s : List UInt8) : Plain Try.prog 115 [.str s] (.bool (nameB s)) := okOf mixed p115 fun A P hA hP => (by
  obtain ⟨w, hw⟩ : ∃ w, w = isWord s := ⟨_, rfl⟩
  obtain ⟨k, hk⟩ : ∃ k, k = keyB s := ⟨_, rfl⟩
  have h87 := ok163 s
  have h88 := ok164 s
  have hn : nameB s = (w && (decide (s.length ≤ 64) && !k)) := by rw [hw, hk]; rfl
  rw [hn]
  rw [← hw] at h87
  rw [← hk] at h88
  obtain ⟨n, hn⟩ : ∃ n, n = s.length := ⟨_, rfl⟩
  rw [← hn]
  clear hw hk
  cbv
  repeat' first | with_reducible rfl | with_reducible refine And.intro ?_ ?_ | ((with_reducible intro hcc); first | (cases hcc; done) | skip) | ((with_reducible show goC _ _ _ _ _ _ _ _); cbv) | ((with_reducible show goOps _ _ _ _ _); cbv) | ((with_reducible show okWr _ _ = _); rfl) | ((with_reducible refine callK_eq hA hP ?_ ?_ ?_ (Wks.refl _) (fun _ _ => h87)); exact rfl; exact rfl; cbv) | ((with_reducible refine callK_eq hA hP ?_ ?_ ?_ (Wks.refl _) (fun _ _ => h88)); exact rfl; exact rfl; cbv) | ((with_reducible refine hA.fin_pl _ _ _ ?_); cbv) | ((with_reducible refine hA.slen _ _ _ _ _ fun z hz hb => ?_); cbv) | ((with_reducible refine hA.gb0 true _ ?_); cbv) | ((with_reducible refine hA.gb0 false _ ?_); cbv) | ((with_reducible refine hA.gb _ _ fun vb hvb => ?_); cbv) | (simp only [hA.natLit, hA.natOf, hA.natCast]; cbv)
  all_goals try simp only [hA.add, hA.sub, hA.mul, hA.neg, hA.div, hA.mod, hA.mn, hA.mx, hA.eq, hA.lt, hA.le, hA.nat, hA.R, hA.lep, hA.ltp, hA.seq, inR, n_cast, Int.ofNat_eq_natCast, Option.getD_some, Option.getD_none] at *
  all_goals first
    | omega
    | (clear h87 h88; grind; done)
    | (clear h87 h88; simp at *; grind; done)
    | (trace_state; fail))
end Go.Proofs.Ytfplalbognalkaa.Ab
/- Names: valid, by the program. -/
namespace Go.Proofs.Ytfplalbognalkaa.Ab
open Go
theorem nameB_false (s : List UInt8) : (s.length < 1 → nameB s = false) ∧ (64 < s.length → nameB s = false) ∧ (1 ≤ s.length → isLet (chAt s 0) = false → nameB s = false) ∧ (keyB s = true → nameB s = false) ∧
    (∀ j, j < s.length → isLet (chAt s j) = false → isDig (chAt s j) = false → chAt s j ≠ 95 → nameB s = false) ∧
    (1 ≤ s.length → s.length ≤ 64 → isLet (chAt s 0) = true → keyB s = false → (∀ j, j < s.length → (isLet (chAt s j) || (isDig (chAt s j) || decide (chAt s j = 95))) = true) → nameB s = true) := by
  have hw : ∀ j, j < s.length → okAt s j = false → isWord s = false := fun j hj e => by
    rw [isWord, decide_eq_false_iff_not]
    intro ⟨_, q⟩
    rw [q j hj] at e; cases e
  refine ⟨fun h => ?_, fun h => ?_, fun h e => ?_, fun h => ?_, fun j hj e1 e2 e3 => ?_, fun h1 h2 e1 e2 q => ?_⟩
  · have : isWord s = false := by rw [isWord, decide_eq_false_iff_not]; intro ⟨q, _⟩; omega
    simp [nameB, this]
  · simp [nameB, show ¬ s.length ≤ 64 by omega]
  · simp [nameB, hw 0 (by omega) (by simp [okAt, e])]
  · simp [nameB, h]
  · simp [nameB, hw j hj (by simp [okAt, e1, e2, e3])]
  · have : isWord s = true := by
      rw [isWord, decide_eq_true_eq]
      refine ⟨by omega, fun j hj => ?_⟩
      have := q j hj
      by_cases h0 : j = 0
      · subst h0; simp [okAt, e1]
      · simpa [okAt, h0] using this
    simp [nameB, this, h2, e2]
set_option maxRecDepth 100000 in
set_option maxHeartbeats 1000000 in
theorem ok119 (s : List UInt8) : Plain Try.prog 119 [.str s] (.bool (nameB s)) := okOf mixed p119 fun A P hA hP => (by
  obtain ⟨g1, g2, g3, g4, g5, g6⟩ := nameB_false s
  obtain ⟨r, hr⟩ : ∃ r, r = nameB s := ⟨_, rfl⟩
  rw [← hr] at g1 g2 g3 g4 g5 g6 ⊢
  obtain ⟨c0, hc0⟩ : ∃ c, c = (s.getD 0 0).toNat := ⟨_, rfl⟩
  have hch0 : chAt s 0 = (c0 : Int) := by rw [chAt, hc0]
  rw [hch0] at g3 g6
  obtain ⟨b0, hb0⟩ : ∃ b, b = isLet (c0 : Int) := ⟨_, rfl⟩
  have e90 := ok166 (c0 : Int)
  rw [← hb0] at g3 g6 e90
  have e91 := ok167 s
  obtain ⟨kb, hkb⟩ : ∃ b, b = keyB s := ⟨_, rfl⟩
  rw [← hkb] at g4 g6 e91
  clear hr hb0 hkb hch0
  cbv
  repeat' first | with_reducible rfl | with_reducible refine And.intro ?_ ?_ | ((with_reducible intro hcc); first | (cases hcc; done) | skip) | ((with_reducible show goC _ _ _ _ _ _ _ _); cbv) | ((with_reducible show goOps _ _ _ _ _); cbv) | ((with_reducible show okWr _ _ = _); rfl) | ((with_reducible refine callK_eq hA hP ?_ ?_ ?_ (Wks.refl _) (fun _ _ => e90)); exact rfl; exact rfl; cbv) | ((with_reducible refine callK_eq hA hP ?_ ?_ ?_ (Wks.refl _) (fun _ _ => e91)); exact rfl; exact rfl; cbv) | ((with_reducible refine hA.six _ _ _ fun z6 c hz6 hc hc2 => ?_); (have e6 : c0 = c := (by rw [hc, hc0]; rfl)); subst e6; cbv) | ((with_reducible refine hA.fin_pl _ _ _ ?_); cbv) | ((with_reducible refine hA.slen _ _ _ _ _ fun z hz hb => ?_); cbv) | ((with_reducible refine hA.six _ _ _ fun z6 c hz6 hc hc2 => ?_); cbv) | ((with_reducible refine hA.sapp _ _ _ ⟨?_, fun sl hsl => ?_⟩); rotate_left; cbv) | ((with_reducible refine hA.gb0 true _ ?_); cbv) | ((with_reducible refine hA.gb0 false _ ?_); cbv) | ((with_reducible refine hA.gb _ _ fun vb hvb => ?_); cbv) | (simp only [hA.natLit, hA.natOf, hA.natCast]; cbv)
  all_goals try simp only [hA.add, hA.sub, hA.mul, hA.neg, hA.div, hA.mod, hA.mn, hA.mx, hA.eq, hA.lt, hA.le, hA.nat, hA.R, hA.lep, hA.ltp, hA.seq, inR, n_cast, Int.ofNat_eq_natCast, Option.getD_some, Option.getD_none] at *
  all_goals try (first
    | omega
    | (clear g1 g2 g3 g4 g5 g6 hc0; simp at *; omega)
    | (clear g1 g2 g3 g4 g5 g6; simp at *; grind; done))
  · have hfalse : r = false := by
      have q1 : (s.length : Int) < 1 ∨ 64 < (s.length : Int) ∨ (1 ≤ (s.length : Int) ∧ b0 = false) ∨ kb = true := by
        clear g1 g2 g3 g4 g5 g6
        simp at *
        grind
      rcases q1 with q | q | ⟨q, q'⟩ | q
      · exact g1 (by omega)
      · exact g2 (by omega)
      · exact g3 (by omega) q'
      · exact g4 q
    rw [hfalse]
  · have q1 : 1 ≤ (s.length : Int) ∧ (s.length : Int) ≤ 64 ∧ b0 = true ∧ kb = false := by
      clear g1 g2 g3 g4 g5 g6
      simp at *
      grind
    obtain ⟨q1, q2, q3, q4⟩ := q1
    refine hA.loopI (fun n st => ∃ i zz : Int, 0 ≤ i ∧ zz = s.length ∧ n + i = zz ∧ (∀ j : Nat, j < i → (isLet (chAt s j) || (isDig (chAt s j) || decide (chAt s j = 95))) = true) ∧ st = ⟨[(24, .int i), (23, .int zz), (2, .bool false), (0, .str s)], []⟩) s.length _
      (Weak.keep (env' := [(24, .int 0), (23, .int z), (2, .bool false), (0, .str s)]) ⟨rfl, rfl, rfl, rfl, trivial⟩) ⟨0, z, by omega, by omega, by omega, fun j hj => by omega, rfl⟩ ?_
    rintro n st K ⟨i, zz, h0, hz, h1, h2, rfl⟩ hK
    by_cases hin : i < zz
    · obtain ⟨cN, hcN⟩ : ∃ cN, cN = (s.getD i.toNat 0).toNat := ⟨_, rfl⟩
      have hch : chAt s i.toNat = (cN : Int) := by rw [chAt, hcN]
      have f90 := ok166 (cN : Int)
      have f92 := ok168 (cN : Int)
      have k5 := g5 i.toNat (by omega)
      rw [hch] at k5
      have k6 : (isLet (cN : Int) || (isDig (cN : Int) || decide ((cN : Int) = 95))) = true → ∀ s1, Weak (hpF []) s1 ⟨[(24, .int (i + 1)), (23, .int zz), (2, .bool false), (0, .str s)], []⟩ → K s1 := fun e s1 hw => by
        refine hK s1 (n - 1) _ (by omega) hw ⟨i + 1, zz, by omega, hz, by omega, fun j hj => ?_, rfl⟩
        by_cases hji : (j : Int) < i
        · exact h2 j hji
        · have : j = i.toNat := by omega
          rw [this, hch]; exact e
      obtain ⟨bl, hbl⟩ : ∃ b, b = isLet (cN : Int) := ⟨_, rfl⟩
      obtain ⟨bd, hbd⟩ : ∃ b, b = isDig (cN : Int) := ⟨_, rfl⟩
      rw [← hbl] at f90 k5 k6
      rw [← hbd] at f92 k5 k6
      clear hK h2 hbl hbd hch g1 g2 g3 g4 g5 g6 e90 e91 hvb q3 q4
      cbv
      repeat' first | with_reducible rfl | with_reducible refine And.intro ?_ ?_ | ((with_reducible intro hcc); first | (cases hcc; done) | skip) | ((with_reducible show goC _ _ _ _ _ _ _ _); cbv) | ((with_reducible show goOps _ _ _ _ _); cbv) | ((with_reducible show okWr _ _ = _); rfl) | ((with_reducible refine callK_eq hA hP ?_ ?_ ?_ (Wks.refl _) (fun _ _ => f90)); exact rfl; exact rfl; cbv) | ((with_reducible refine callK_eq hA hP ?_ ?_ ?_ (Wks.refl _) (fun _ _ => f92)); exact rfl; exact rfl; cbv) | ((with_reducible refine hA.six _ _ _ fun z6 c hz6 hc hc2 => ?_); (have e6 : cN = c := (by rw [hc, hcN])); subst e6; cbv) | ((with_reducible refine hA.fin_pl _ _ _ ?_); cbv) | ((with_reducible refine hA.slen _ _ _ _ _ fun z hz hb => ?_); cbv) | ((with_reducible refine hA.six _ _ _ fun z6 c hz6 hc hc2 => ?_); cbv) | ((with_reducible refine hA.sapp _ _ _ ⟨?_, fun sl hsl => ?_⟩); rotate_left; cbv) | ((with_reducible refine hA.gb0 true _ ?_); cbv) | ((with_reducible refine hA.gb0 false _ ?_); cbv) | ((with_reducible refine hA.gb _ _ fun vb hvb => ?_); cbv) | (simp only [hA.natLit, hA.natOf, hA.natCast]; cbv)
      all_goals try simp only [hA.add, hA.sub, hA.mul, hA.neg, hA.div, hA.mod, hA.mn, hA.mx, hA.eq, hA.lt, hA.le, hA.nat, hA.R, hA.lep, hA.ltp, hA.seq, inR, n_cast, Int.ofNat_eq_natCast, Option.getD_some, Option.getD_none] at *
      all_goals first
        | omega
        | (refine k6 ?_ _ (Weak.keep ⟨rfl, rfl, rfl, rfl, trivial⟩); clear k6 k5 hcN hc; simp at *; grind; done)
        | (rw [k5 (by clear k6 k5 hcN; grind) (by clear k6 k5 hcN; grind) (by clear k6 k5 hcN; grind)]; done)
        | (clear k6 k5 hcN; simp at *; omega)
        | (clear k6 k5 hcN; grind; done)
        | (trace_state; fail)
    · have hr2 : r = true := g6 (by omega) (by omega) q3 q4 fun j hj => h2 j (by omega)
      clear hK h2 g1 g2 g3 g4 g5 g6
      cbv
      repeat' first | with_reducible rfl | with_reducible refine And.intro ?_ ?_ | ((with_reducible intro hcc); first | (cases hcc; done) | skip) | ((with_reducible show goC _ _ _ _ _ _ _ _); cbv) | ((with_reducible show goOps _ _ _ _ _); cbv) | ((with_reducible show okWr _ _ = _); rfl) | (exfalso; simp only [hA.lt, hA.sub, decide_eq_true_eq, decide_eq_false_iff_not, n_cast] at *; omega) | ((with_reducible refine hA.fin_pl _ _ _ ?_); cbv) | ((with_reducible refine hA.slen _ _ _ _ _ fun z hz hb => ?_); cbv) | ((with_reducible refine hA.six _ _ _ fun z6 c hz6 hc hc2 => ?_); cbv) | ((with_reducible refine hA.sapp _ _ _ ⟨?_, fun sl hsl => ?_⟩); rotate_left; cbv) | ((with_reducible refine hA.gb0 true _ ?_); cbv) | ((with_reducible refine hA.gb0 false _ ?_); cbv) | ((with_reducible refine hA.gb _ _ fun vb hvb => ?_); cbv) | (simp only [hA.natLit, hA.natOf, hA.natCast]; cbv)
      all_goals try simp only [hA.add, hA.sub, hA.mul, hA.neg, hA.div, hA.mod, hA.mn, hA.mx, hA.eq, hA.lt, hA.le, hA.nat, hA.R, hA.lep, hA.ltp, hA.seq, inR, n_cast, Int.ofNat_eq_natCast, Option.getD_some, Option.getD_none] at *
      all_goals first
        | (rw [hr2]; done)
        | omega
        | (trace_state; fail))
end Go.Proofs.Ytfplalbognalkaa.Ab
/- One outcome: a walk's result, drawn out ahead of the call. -/
namespace Go.Proofs.Ytfplalbognalkaa.Ab
open Go
/-- What code does from a state: at most one outcome. -/
def SO (P : Program) (h0 : Hp) (nt : Nat) (code : Code) (s : St) (o : Option (Exit × St)) : Prop :=
  ∀ (w0 : World) (G0 : Gh) a w G, SR ⟨w0, G0, h0, nt⟩ s a w G → code.wp P (fun e a' w' => ∃ s', o = some (e, s') ∧ ∃ G', SR ⟨w0, G0, h0, nt⟩ s' a' w' G') a w
def KO (Kn : St → Prop) (Ke : Nat → St → Prop) (Kr : St → Prop) : Option (Exit × St) → Prop
  | none => True
  | some (.normal, s) => Kn s
  | some (.exit i, s) => Ke i s
  | some (.ret, s) => Kr s
  | _ => False
theorem list_lin {P : Program} {h0 : Hp} {nt : Nat} {ops : Array Oper} {K : St → Prop} : ∀ (l : List Oper) s, goOps Ar.std P (l.map (prepIns P nt ops)) s K →
    ∃ o : Option St, (∀ s', o = some s' → K s') ∧ ∀ (Q : Exit → Act → World → Prop) w0 G0 a w G, SR ⟨w0, G0, h0, nt⟩ s a w G → (∀ s' a w G, o = some s' → SR ⟨w0, G0, h0, nt⟩ s' a w G → Q .normal a w) → wpList P ops Q l a w := by
  intro l
  induction l with
  | nil => intro s h; exact ⟨some s, fun s' e => by cases e; exact h, fun Q w0 G0 a w G x hq => wpList_nil (hq s a w G rfl x)⟩
  | cons o r ih =>
    intro s h
    by_cases hx : ∃ w0 G0 a w G, SR ⟨w0, G0, h0, nt⟩ s a w G
    case neg => exact ⟨none, fun s' e => (by cases e), fun Q w0 G0 a w G x _ => absurd ⟨w0, G0, a, w, G, x⟩ hx⟩
    obtain ⟨w00, G00, a0, w0, G0, x0⟩ := hx
    simp only [List.map_cons, goOps, opA_std] at h
    unfold prepIns at h
    split at h
    · rename_i g hg
      split at h
      · rename_i hdst
        obtain ⟨gd, g', h, hgd, hwant⟩ := guard_spec0 hg h
        obtain ⟨ow, eff, ⟨how, hwr, hk'⟩, h1, h2, h3⟩ := op_sound (fun _ => ⟨w0, G0, hpF s.hp, a0, x0.rels⟩) h
        obtain ⟨o', q1, q2⟩ := ih _ hk'
        refine ⟨o', q1, fun Q w1 G1 a w G x hq => wpList_step fun K' hK' => ?_⟩
        have hwant := hwant w G (hpF s.hp) a fun t d _ ht => x.rel t d ht
        split
        · rename_i hw
          rw [hw] at hwant; subst hwant
          refine h3 how rfl w G (hpF s.hp) a K' Q x.inv (fun _ _ => rfl) (fun j hj => hpF_ge (by omega)) x.rels fun v w' G' hv hi he => hK' _ _ ?_
          exact q2 Q _ _ _ _ G' (x.app hdst hwr hv hi he) hq
        · rename_i hw
          have hg' : g' = false := by rw [← hwant]; simpa using hw
          subst hg'
          obtain ⟨e1, e2, d, e3⟩ := h1 (hgd rfl)
          refine hK' _ _ (q2 Q _ _ _ _ G ?_ hq)
          have e4 : happ (hpF s.hp) s.hp.length eff = hpF s.hp := by
            rw [happ_app hwr, e1, e2]; simp [hset]
          refine x.app hdst hwr (fun d' hd' => ?_) (by rw [e4]; exact x.inv) (by rw [e4]; exact Ext.refl _ _ _)
          rw [e3] at hd'; cases hd'
          exact .when (by simp) (fun _ => rfl)
      · exact (by simp [guardOf, opE] at h : False).elim
    · exact (by simp [guardOf, opE] at h : False).elim
theorem dreg_lin {P : Program} {h0 : Hp} {nt : Nat} {ops : Array Oper} {K : St → Prop} {s : St} {id : Nat} (hm : P.follows .mixedOrders = true)
    (h : goD Ar.std P (prepDs P nt ops (ancs ops.toList []) 0 ops.toList) [] s K) :
    ∃ s', K s' ∧ ∀ (Q : Exit → Act → World → Prop) w0 G0 a w G, SR ⟨w0, G0, h0, nt⟩ s a w G → (∀ a w G, SR ⟨w0, G0, h0, nt⟩ s' a w G → Q .normal a w) → (Code.region id ops true).wp P Q a w := by
  obtain ⟨recs, q1, q2, q3, q4⟩ := goD_spec _ 0 [] s h rfl
  have F : Facts P nt ops (ancs ops.toList []) s recs := {
    len := by simpa using q1
    ok := q2
    step := fun j o r ho hr => by
      obtain ⟨a1, a2, a3, a4, a5, _⟩ := q4 j o r (by simpa using ho) hr
      exact ⟨a1, a2, a3, a4, by simpa using a5⟩
    un := fun j k o r x y ho hr hx hy hk => by
      obtain ⟨_, _, _, _, _, a6⟩ := q4 j o r (by simpa using ho) hr
      obtain ⟨⟨x', h1, h2⟩, y', h3, h4⟩ := a6 k (by simpa using hk)
      rw [hx] at h1; cases h1
      rw [List.nil_append, hy] at h3; cases h3
      exact ⟨h2, h4⟩
    anc := ancs_spec ops.toList [] (fun j => by simp) (fun j ks h => by simp at h) }
  refine ⟨runR s recs, q3, fun Q w0 G0 a w G x hq => wp_region_any hm ?_⟩
  obtain ⟨i0, x0⟩ := drew_step x.inv
  have hfalse : ∀ k, (Array.replicate ops.size false).getD k false = false := fun k => by
    simp only [Array.getD]
    split <;> simp
  have e0 : hS s recs (fun k => (Array.replicate ops.size false).getD k false) = hpF s.hp := by
    funext i
    exact lastS_none _ _ _ fun j _ h => by rw [hfalse] at h; cases h
  have e1 : ∀ t, eS s recs (fun k => (Array.replicate ops.size false).getD k false) t = look t s.env := fun t => lastS_none _ _ _ fun j _ h => by rw [hfalse] at h; cases h
  refine any_sound (c := ⟨w0, G0, h0, nt⟩) F (fun a w G x => hq a w G x) ops.size _ a _ G (by simp) (by simp) (fun i o _ h => by have := hfalse i; simp only [this] at h; cases h) ⟨x.defers, x.size, by rw [e0]; exact i0, by rw [e0]; exact x.ext.trans x0, fun t d h => ?_⟩
  rw [e0]
  rw [e1] at h
  exact (x.rel t d h).ext x0
theorem goC_lin {P : Program} {h0 : Hp} {nt : Nat} (hm : P.follows .mixedOrders = true) : ∀ (code : Code) {Kn : St → Prop} {Ke : Nat → St → Prop} {Kr : St → Prop} (s : St),
    goC Ar.std P h0 (prepC P nt code) Kn Ke Kr s → ∃ o, KO Kn Ke Kr o ∧ SO P h0 nt code s o := by
  intro code
  induction code with
  | skip => intro Kn Ke Kr s h; exact ⟨some (.normal, s), h, fun w0 G0 a w G x => wp_skip ⟨s, rfl, G, x⟩⟩
  | region id ops dr =>
    intro Kn Ke Kr s h
    cases dr with
    | false =>
      obtain ⟨o, q1, q2⟩ := list_lin (h0 := h0) _ s h
      cases o with
      | none => exact ⟨none, trivial, fun w0 G0 a w G x => wp_region_list (q2 _ w0 G0 a w G x fun s' a w G e => by cases e)⟩
      | some s1 => exact ⟨some (.normal, s1), q1 _ rfl, fun w0 G0 a w G x => wp_region_list (q2 _ w0 G0 a w G x fun s' a w G e x' => by cases e; exact ⟨s1, rfl, G, x'⟩)⟩
    | true =>
      obtain ⟨s1, q1, q2⟩ := dreg_lin (h0 := h0) (id := id) hm h
      exact ⟨some (.normal, s1), q1, fun w0 G0 a w G x => q2 _ w0 G0 a w G x fun a w G x' => ⟨s1, rfl, G, x'⟩⟩
  | seq y z ihy ihz =>
    intro Kn Ke Kr s h
    obtain ⟨o, q1, q2⟩ := ihy s h
    match o, q1, q2 with
    | none, _, q2 => exact ⟨none, trivial, fun w0 G0 a w G x => wp_seq (wp_mono (q2 w0 G0 a w G x) fun e a w ⟨s', h, _⟩ => by cases h)⟩
    | some (.normal, s1), q1, q2 =>
      obtain ⟨o2, q3, q4⟩ := ihz s1 q1
      exact ⟨o2, q3, fun w0 G0 a w G x => wp_seq (wp_mono (q2 w0 G0 a w G x) fun e a w ⟨s', h, G', x'⟩ => by cases h; exact q4 w0 G0 a w G' x')⟩
    | some (.exit i, s1), q1, q2 => exact ⟨some (.exit i, s1), q1, fun w0 G0 a w G x => wp_seq (wp_mono (q2 w0 G0 a w G x) fun e a w ⟨s', h, G', x'⟩ => by cases h; exact ⟨s1, rfl, G', x'⟩)⟩
    | some (.ret, s1), q1, q2 => exact ⟨some (.ret, s1), q1, fun w0 G0 a w G x => wp_seq (wp_mono (q2 w0 G0 a w G x) fun e a w ⟨s', h, G', x'⟩ => by cases h; exact ⟨s1, rfl, G', x'⟩)⟩
  | cond y p q ihp ihq =>
    intro Kn Ke Kr s h
    simp only [prepC] at h
    split at h
    · rename_i y' hy
      simp only [goC] at h
      split at h
      · rename_i c' hc'
        have ev : ∀ w0 G0 a w G, SR ⟨w0, G0, h0, nt⟩ s a w G → a.eval y = .bool c' := fun w0 G0 a w G x => (rv_v (x.rels y y' _ hy hc')).1
        cases c' with
        | true =>
          obtain ⟨o, q1, q2⟩ := ihp s (h.1 rfl)
          exact ⟨o, q1, fun w0 G0 a w G x => wp_cond_true (ev w0 G0 a w G x) (q2 w0 G0 a w G x)⟩
        | false =>
          obtain ⟨o, q1, q2⟩ := ihq s (h.2 rfl)
          exact ⟨o, q1, fun w0 G0 a w G x => wp_cond_false (ev w0 G0 a w G x) (q2 w0 G0 a w G x)⟩
      · exact h.elim
    · exact h.elim
  | block id y ih =>
    intro Kn Ke Kr s h
    obtain ⟨o, q1, q2⟩ := ih s h
    match o, q1, q2 with
    | none, _, q2 => exact ⟨none, trivial, fun w0 G0 a w G x => wp_block (wp_mono (q2 w0 G0 a w G x) fun e a w ⟨s', h, _⟩ => by cases h)⟩
    | some (.normal, s1), q1, q2 => exact ⟨some (.normal, s1), q1, fun w0 G0 a w G x => wp_block (wp_mono (q2 w0 G0 a w G x) fun e a w ⟨s', h, G', x'⟩ => by cases h; exact ⟨s1, rfl, G', x'⟩)⟩
    | some (.exit i, s1), q1, q2 =>
      by_cases e : i = id
      · simp only [KO, if_pos e] at q1
        exact ⟨some (.normal, s1), q1, fun w0 G0 a w G x => wp_block (wp_mono (q2 w0 G0 a w G x) fun e' a w ⟨s', h, G', x'⟩ => by cases h; simp only [Exit.inBlock, if_pos e]; exact ⟨s1, rfl, G', x'⟩)⟩
      · simp only [KO, if_neg e] at q1
        exact ⟨some (.exit i, s1), q1, fun w0 G0 a w G x => wp_block (wp_mono (q2 w0 G0 a w G x) fun e' a w ⟨s', h, G', x'⟩ => by cases h; simp only [Exit.inBlock, if_neg e]; exact ⟨s1, rfl, G', x'⟩)⟩
    | some (.ret, s1), q1, q2 => exact ⟨some (.ret, s1), q1, fun w0 G0 a w G x => wp_block (wp_mono (q2 w0 G0 a w G x) fun e a w ⟨s', h, G', x'⟩ => by cases h; exact ⟨s1, rfl, G', x'⟩)⟩
  | loop y ih =>
    intro Kn Ke Kr s h
    obtain ⟨I, ⟨n, s1, hw, hi⟩, hs⟩ := h
    have key : ∀ n s, I n s → ∃ o, KO (fun _ => False) Ke Kr o ∧ ∃ m, ∀ w0 G0 a w G, SR ⟨w0, G0, h0, nt⟩ s a w G → Code.rounds P y (fun e a' w' => ∃ s', o = some (e, s') ∧ ∃ G', SR ⟨w0, G0, h0, nt⟩ s' a' w' G') m a w := by
      intro n
      induction n using Nat.strongRecOn with
      | _ n ihn =>
        intro s hi
        obtain ⟨o, q1, q2⟩ := ih s (hs n s hi)
        match o, q1, q2 with
        | none, _, q2 => exact ⟨none, trivial, 1, fun w0 G0 a w G x => by rw [rounds_succ]; exact wp_mono (q2 w0 G0 a w G x) fun e a w ⟨s', h, _⟩ => by cases h⟩
        | some (.normal, s2), ⟨m, s3, hlt, hw, hi2⟩, q2 =>
          obtain ⟨o2, q3, m2, q4⟩ := ihn m hlt s3 hi2
          refine ⟨o2, q3, m2 + 1, fun w0 G0 a w G x => ?_⟩
          rw [rounds_succ]
          refine wp_mono (q2 w0 G0 a w G x) fun e a w ⟨s', h, G', x'⟩ => ?_
          cases h
          obtain ⟨G3, x3⟩ := x'.weak hw
          exact q4 w0 G0 a w G3 x3
        | some (.exit i, s2), q1, q2 => exact ⟨some (.exit i, s2), q1, 1, fun w0 G0 a w G x => by rw [rounds_succ]; exact wp_mono (q2 w0 G0 a w G x) fun e a w ⟨s', h, G', x'⟩ => by cases h; exact ⟨s2, rfl, G', x'⟩⟩
        | some (.ret, s2), q1, q2 => exact ⟨some (.ret, s2), q1, 1, fun w0 G0 a w G x => by rw [rounds_succ]; exact wp_mono (q2 w0 G0 a w G x) fun e a w ⟨s', h, G', x'⟩ => by cases h; exact ⟨s2, rfl, G', x'⟩⟩
    obtain ⟨o, q1, m, q2⟩ := key n s1 hi
    refine ⟨o, ?_, fun w0 G0 a w G x => ?_⟩
    · match o, q1 with
      | none, _ => trivial
      | some (.exit i, s2), q1 => exact q1
      | some (.ret, s2), q1 => exact q1
    · obtain ⟨G1, x1⟩ := x.weak hw
      exact wp_loop_rounds m (q2 w0 G0 a w G1 x1)
  | exit id => intro Kn Ke Kr s h; exact ⟨some (.exit id, s), h, fun w0 G0 a w G x => wp_exit ⟨s, rfl, G, x⟩⟩
  | ret => intro Kn Ke Kr s h; exact ⟨some (.ret, s), h, fun w0 G0 a w G x => wp_ret ⟨s, rfl, G, x⟩⟩
  | _ => intro Kn Ke Kr s h; exact h.elim
theorem evG_lin {g : Bool} {x : Option D} {K : Prop → D → Prop} (h : evG g x K) : ∃ o d, K o d ∧ ∀ K' : Prop → D → Prop, K' o d → evG g x K' := by
  unfold evG at h
  split at h
  · exact h.elim
  · exact ⟨_, _, h, fun K' h => h⟩
  · exact ⟨_, _, h, fun K' h => (by rename_i d hd; unfold evG; split <;> simp_all)⟩
theorem resK_lin {s : St} : ∀ (l : List RV) {K : Prop → List D → Prop}, resK s l K → ∃ o ds, K o ds ∧ ∀ K' : Prop → List D → Prop, K' o ds → resK s l K'
  | [], K, h => ⟨_, _, h, fun K' h => h⟩
  | .tmp t :: r, K, h => by
    simp only [resK] at h ⊢
    obtain ⟨o, d, h1, h2⟩ := evG_lin h
    obtain ⟨o', ds, h3, h4⟩ := resK_lin r h1
    exact ⟨_, _, h3, fun K' q => h2 _ (h4 _ q)⟩
  | .cell t agg n :: r, K, h => by
    simp only [resK] at h ⊢
    split at h
    case h_2 => exact h.elim
    rename_i i off hb
    split at h
    case h_2 => exact h.elim
    rename_i bs hbx
    obtain ⟨o', ds, h3, h4⟩ := resK_lin r h
    cases agg with
    | true => exact ⟨_, _, h3, fun K' q => h4 _ q⟩
    | false => exact ⟨_, _, h3, fun K' q => h4 _ q⟩
/-- A walk with a choice at its end has chosen ahead of it. -/
theorem callOK_lin {P : Program} (hm : P.follows .mixedOrders = true) {fn : FuncId} {f : F} (hf : prepF P fn = some f) {args : List D} {l0 : List O} {R : D → List O → Prop} (h : goF Ar.std P f args l0 R) :
    CallOK P fn args l0 (fun _ _ => False) ∨ ∃ d l, R d l ∧ CallOK P fn args l0 fun d' l' => d' = d ∧ l' = l := by
  have hf0 := hf
  simp only [prepF, Option.bind_eq_some_iff, Option.map_eq_some_iff] at hf
  obtain ⟨fu, h1, b, h2, r, h3, rfl⟩ := hf
  obtain ⟨hn, hc⟩ := h
  simp only at hn hc
  have sr : ∀ (w : World) (G : Gh) (vs : Array Value), Inv w G (hpF l0) → vs.size = args.length → (∀ (j : Nat) v d, vs[j]? = some v → args[j]? = some d → Rv w G (hpF l0) v d) →
      SR ⟨w, G, hpF l0, fu.ntmps⟩ ⟨envOf 0 args, l0⟩ { tmps := vs ++ Array.replicate (fu.ntmps - vs.size) undef, defers := [] } w G := fun w G vs hi hs hr => {
    defers := rfl
    size := by simp; omega
    inv := hi
    ext := Ext.refl _ _ _
    rel := fun t d ht => by
      obtain ⟨_, hd⟩ := look_envOf args 0 t d ht
      rw [Nat.sub_zero] at hd
      have hlt : t < args.length := (List.getElem?_eq_some_iff.1 hd).1
      have hv : (vs ++ Array.replicate (fu.ntmps - vs.size) undef).getD t undef = vs[t]'(by omega) := by
        simp [Array.getD, show t < vs.size by omega]
        intro h; omega
      show Rv w G _ ((vs ++ Array.replicate (fu.ntmps - vs.size) undef).getD t undef) d
      rw [hv]
      exact hr t _ d (by simp [show t < vs.size by omega]) hd }
  by_cases hx : ∃ (w : World) (G : Gh) (vs : Array Value), Inv w G (hpF l0) ∧ vs.size = args.length ∧ (∀ (j : Nat) v d, vs[j]? = some v → args[j]? = some d → Rv w G (hpF l0) v d)
  case neg => exact .inl fun w G vs hi hs hr => absurd ⟨w, G, vs, hi, hs, hr⟩ hx
  obtain ⟨o, q1, q2⟩ := goC_lin hm b _ hc
  have fin : ∀ s, finK r R s → ∃ d, R d s.hp ∧ finK r (fun d' l' => d' = d ∧ l' = s.hp) s := fun s h => by
    obtain ⟨o, ds, ⟨k1, k2⟩, k3⟩ := resK_lin r h
    exact ⟨_, k2, k3 _ ⟨k1, rfl, rfl⟩⟩
  match o, q1, q2 with
  | none, _, q2 => exact .inl fun w G vs hi hs hr => calls_of_wp h1 h2 (wp_mono (q2 _ _ _ _ _ (sr w G vs hi hs hr)) fun e a w ⟨s', h, _⟩ => by cases h)
  | some (.normal, s1), q1, q2 =>
    obtain ⟨d, k1, k2⟩ := fin s1 q1
    refine .inr ⟨d, s1.hp, k1, fun w G vs hi hs hr => calls_of_wp h1 h2 (wp_mono (q2 _ _ _ _ _ (sr w G vs hi hs hr)) fun e a w' ⟨s', h, G', x'⟩ => ?_)⟩
    cases h
    obtain ⟨v, d', e1, ⟨e2, e3⟩, e4⟩ := fin_spec x' h3 k2
    exact ⟨x'.defers, v, e1, v, d', s1.hp, G', rfl, ⟨e2, rfl⟩, e4, x'.inv, x'.ext⟩
  | some (.ret, s1), q1, q2 =>
    obtain ⟨d, k1, k2⟩ := fin s1 q1
    refine .inr ⟨d, s1.hp, k1, fun w G vs hi hs hr => calls_of_wp h1 h2 (wp_mono (q2 _ _ _ _ _ (sr w G vs hi hs hr)) fun e a w' ⟨s', h, G', x'⟩ => ?_)⟩
    cases h
    obtain ⟨v, d', e1, ⟨e2, e3⟩, e4⟩ := fin_spec x' h3 k2
    exact ⟨x'.defers, v, e1, v, d', s1.hp, G', rfl, ⟨e2, rfl⟩, e4, x'.inv, x'.ext⟩
theorem CallOK.mono {P : Program} {fn : FuncId} {args : List D} {l0 : List O} {R R' : D → List O → Prop} (h : CallOK P fn args l0 R) (hr : ∀ d l, R d l → R' d l) : CallOK P fn args l0 R' := by
  intro w G vs a b c
  exact (h w G vs a b c).mono fun e w' ⟨v, d', l', G', q1, q2, q3⟩ => ⟨v, d', l', G', q1, hr _ _ q2, q3⟩
/-- A contract with some result. -/
theorem okEx {α : Type} {Q : Program} (hm : Q.follows .mixedOrders = true) {fn : FuncId} {f : F} {args : List D} (R : α → Prop) (d : α → D) (hf : prepF Q fn = some f) (hne : ∃ x, R x)
    (h : ∀ (A : Ar) (P : Program), A.Ok → P = Q → goF A P f args [] fun d' l => ∃ x, R x ∧ A.fin l d' (d x)) (hd : ∀ x, (d x).free = true := by intros; rfl) : ∃ x, R x ∧ Plain Q fn args (d x) := by
  rcases callOK_lin hm hf (h Ar.std Q Ar.std_ok rfl) with h | ⟨d', l, ⟨x, hx, h1⟩, h2⟩
  · obtain ⟨x, hx⟩ := hne
    exact ⟨x, hx, h.mono fun _ _ h => h.elim⟩
  · exact ⟨x, hx, h2.mono fun d2 l2 ⟨e1, e2⟩ => by subst e1; subst e2; exact h1 (hd x)⟩
theorem procEx {α : Type} {Q : Program} (hm : Q.follows .mixedOrders = true) {fn : FuncId} {f : F} {args : RF → List D} {l0 : RF → List O} (R : α → Prop) (d : α → RF → D) (l : α → RF → List O) (hf : prepF Q fn = some f) (hne : ∃ x, R x) (side : ∀ x, R x → Side args l0 (d x) (l x))
    (h : ∀ (A : Ar) (P : Program), A.Ok → P = Q → goF A P f (args id) (l0 id) fun d' l' => ∃ x, R x ∧ A.finv (l0 id) l' d' (l x id) (d x id)) : ∃ x, R x ∧ Proc Q fn args l0 (d x) (l x) := by
  rcases callOK_lin hm hf (h Ar.std Q Ar.std_ok rfl) with h | ⟨d', l', ⟨x, hx, h1⟩, h2⟩
  · obtain ⟨x, hx⟩ := hne
    exact ⟨x, hx, side x hx, h.mono fun _ _ h => h.elim⟩
  · exact ⟨x, hx, side x hx, h2.mono fun d2 l2 ⟨e1, e2⟩ => by subst e1; subst e2; exact h1⟩
end Go.Proofs.Ytfplalbognalkaa.Ab
