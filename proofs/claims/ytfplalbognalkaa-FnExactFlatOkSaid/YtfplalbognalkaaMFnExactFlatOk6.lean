/- The laws' helpers over flat plans: measured, copied, alike. -/
import Derived.Test.YtfplalbognalkaaMFnExactFlatOk5
import Derived.Test.YtfplalbognalkaaRows
import Derived.Test.YtfplalbognalkaaChecked
set_option linter.unusedSimpArgs false
set_option linter.unusedVariables false
set_option linter.unnecessarySimpa false
set_option linter.constructorNameAsVariable false
namespace Go.Proofs.Ytfplalbognalkaa.Ab
open Go
def cO (r : List (Int × Int)) : Int := r.length
theorem cO_nonneg (r : List (Int × Int)) : 0 ≤ cO r := by unfold cO; omega
def cOS (r : List (List (Int × Int))) : Int := r.length + sumC cO r
theorem cOS_nonneg (r : List (List (Int × Int))) : 0 ≤ cOS r := by have := sumC_nonneg cO_nonneg r; unfold cOS; omega
def cFd (d : Fd) : Int := cO d.Ex + cOS d.Exs
theorem cFd_nonneg (d : Fd) : 0 ≤ cFd d := by have := cO_nonneg d.Ex; have := cOS_nonneg d.Exs; unfold cFd; omega
def cFS (ns : List Fd) : Int := ns.length + sumC cFd ns
theorem ok172' (r : List (Int × Int)) (x : List (List E)) (hx : x = r.map orow) (left : Int) (h : 0 ≤ left ∧ left ≤ 1048576) : Plain Try.prog 172 [.e (.sl x), .int left] (.int (cut left (cO r))) := by
  have := ok172 x left h
  rw [hx, List.length_map] at this
  rw [hx]; exact this
set_option maxRecDepth 100000 in
theorem ok173 (l : List (List (Int × Int))) (es : List (List E)) (he : es = l.map orr) (left : Int) (h : 0 ≤ left ∧ left ≤ 1048576) : Plain Try.prog 173 [.e (.sl es), .int left] (.int (cut left (l.length + sumC cO l))) := okOf mixed p173 fun A P hA hP => (by
  have hl1 : es.length = l.length := by rw [he]; simp
  have hsn : ∀ l : List (List (Int × Int)), 0 ≤ sumC cO l := sumC_nonneg cO_nonneg
  obtain ⟨r, hr⟩ : ∃ r, r = cut left (l.length + sumC cO l) := ⟨_, rfl⟩
  rw [← hr]
  have hr2 : r = cut (left - es.length) (sumC cO l) := by rw [hr, hl1, cut, cut]; congr 1 <;> (try apply propext) <;> omega
  clear hr
  cbv
  repeat' first | with_reducible rfl | with_reducible refine And.intro ?_ ?_ | ((with_reducible intro hcc); first | (cases hcc; done) | skip) | ((with_reducible show goC _ _ _ _ _ _ _ _); cbv) | ((with_reducible show goOps _ _ _ _ _); cbv) | ((with_reducible show okWr _ _ = _); rfl) | ((with_reducible refine hA.fin_pl _ _ _ ?_); cbv) | ((with_reducible refine hA.len _ _ _ _ _ fun z hz hb => ?_); cbv) | ((with_reducible refine hA.off _ _ _ _ fun b hb => ?_); cbv) | ((with_reducible refine hA.sapp _ _ _ ⟨?_, fun sl hsl => ?_⟩); rotate_left; cbv) | (simp only [hA.natLit, hA.natOf, hA.natCast]; cbv)
  all_goals try simp only [hA.add, hA.sub, hA.mul, hA.neg, hA.div, hA.mod, hA.mn, hA.mx, hA.eq, hA.lt, hA.le, hA.nat, hA.R, hA.lep, hA.ltp, hA.seq, inR, n_cast, Int.ofNat_eq_natCast, Option.getD_some, Option.getD_none] at *
  all_goals try (first | omega | (have := hb trivial trivial trivial; omega) | (have : r = -1 := (by simp only [decide_eq_true_eq] at *; have := hsn l; rw [hr2]; unfold cut; split <;> omega); rw [this]; done))
  · refine hA.loopI (fun n s => ∃ (i lf : Int), 0 ≤ i ∧ n + i = es.length ∧ 0 ≤ lf ∧ lf ≤ 1048576 ∧ r = cut lf (sumC cO (l.drop i.toNat)) ∧
        s = ⟨[(5, .int i), (0, .e (.sl es)), (1, .int lf), (4, .int 0)], []⟩) es.length _
      (Weak.keep (env' := [(5, .int 0), (0, .e (.sl es)), (1, .int (left - z)), (4, .int 0)]) ⟨rfl, rfl, rfl, rfl, trivial⟩) ⟨0, left - z, by omega, by omega, by simp only [decide_eq_false_iff_not] at *; omega, by omega, (by rw [hr2, hz]; rfl), rfl⟩ ?_
    rintro n s K ⟨i, lf, h0, h1, h2, h3, h4, rfl⟩ hK
    clear hr2
    by_cases hin : (0 : Int) ≤ i ∧ i < es.length
    · obtain ⟨r1, e1, q1⟩ := row_at he hin
      obtain ⟨x1, hx1⟩ : ∃ x, x = r1.map orow := ⟨_, rfl⟩
      have e1 : es.getD i.toNat [] = [E.sl x1] := e1.trans (by rw [hx1])
      rw [sumC_drop q1] at h4
      obtain ⟨S, hS⟩ : ∃ S, S = sumC cO (l.drop (i.toNat + 1)) := ⟨_, rfl⟩
      have hS0 : 0 ≤ S := hS ▸ hsn _
      obtain ⟨c, hcost⟩ : ∃ c, c = cO r1 := ⟨_, rfl⟩
      have hc0 : 0 ≤ c := hcost ▸ cO_nonneg _
      have hc := ok172' r1 x1 hx1 lf ⟨h2, h3⟩
      rw [← hS, ← hcost] at h4
      rw [← hcost] at hc
      obtain ⟨u, hu⟩ : ∃ u, u = cut lf c := ⟨_, rfl⟩
      rw [← hu] at hc
      have e8 : (i + 1).toNat = i.toNat + 1 := by omega
      have g1 : u < 0 → r = -1 := fun a => by rw [h4]; unfold cut at hu ⊢; split at hu <;> split <;> omega
      have g2 : 0 ≤ u → r = cut u S ∧ u ≤ lf := fun a => by
        have hu2 : u = lf - c := by rw [hu] at a ⊢; unfold cut at a ⊢; split at a <;> split <;> omega
        refine ⟨?_, by omega⟩
        rw [h4, hu2]
        unfold cut
        rw [show lf - (c + S) = lf - c - S by omega]
      clear h4 hu hcost
      cbv
      repeat' first | with_reducible rfl | with_reducible refine And.intro ?_ ?_ | ((with_reducible intro hcc); first | (cases hcc; done) | skip) | ((with_reducible show goC _ _ _ _ _ _ _ _); cbv) | ((with_reducible show goOps _ _ _ _ _); cbv) | ((with_reducible show okWr _ _ = _); rfl) | ((with_reducible refine callK_eq hA hP ?_ ?_ ?_ (Wks.refl _) (fun _ _ => hc)); exact rfl; exact rfl; cbv) | ((with_reducible refine hA.row es _ _ ⟨hin, fun row hrow => ?_⟩); rw [e1] at hrow; subst hrow; cbv) | ((with_reducible refine hA.fin_pl _ _ _ ?_); cbv) | ((with_reducible refine hA.len _ _ _ _ _ fun z hz hb => ?_); cbv) | ((with_reducible refine hA.off _ _ _ _ fun b hb => ?_); cbv) | ((with_reducible refine hA.sapp _ _ _ ⟨?_, fun sl hsl => ?_⟩); rotate_left; cbv) | (simp only [hA.natLit, hA.natOf, hA.natCast]; cbv)
      all_goals try simp only [hA.add, hA.sub, hA.mul, hA.neg, hA.div, hA.mod, hA.mn, hA.mx, hA.eq, hA.lt, hA.le, hA.nat, hA.R, hA.lep, hA.ltp, hA.seq, inR, n_cast, Int.ofNat_eq_natCast, Option.getD_some, Option.getD_none] at *
      all_goals first
        | omega
        | (clear hK g1 g2 he; simp at *; omega)
        | (rw [g1 (by clear hK g2; simp at *; omega)]; done)
        | (have hu0 : 0 ≤ u := (by clear hK; simp at *; omega)
           exact hK _ (n - 1) _ (by omega) (Weak.keep (env' := [(5, .int (i + 1)), (0, .e (.sl es)), (1, .int u), (4, .int 0)]) ⟨rfl, rfl, rfl, rfl, trivial⟩) ⟨i + 1, u, by omega, by omega, hu0, by have := (g2 hu0).2; omega, by rw [e8, ← hS]; exact (g2 hu0).1, rfl⟩)
        | (clear hK g1 g2 he; simp at *; omega)
        | (trace_state; fail)
    · have hd : l.drop i.toNat = [] := by rw [List.drop_eq_nil_iff]; omega
      rw [hd] at h4
      have h5 : r = lf := by rw [h4, sumC, cut, if_neg (by omega)]; omega
      clear h4 hK
      cbv
      repeat' first | with_reducible rfl | with_reducible refine And.intro ?_ ?_ | ((with_reducible intro hcc); first | (cases hcc; done) | skip) | ((with_reducible show goC _ _ _ _ _ _ _ _); cbv) | ((with_reducible show goOps _ _ _ _ _); cbv) | ((with_reducible show okWr _ _ = _); rfl) | (exfalso; simp only [hA.lt, hA.sub, decide_eq_true_eq, decide_eq_false_iff_not, n_cast] at *; omega) | ((with_reducible refine hA.fin_pl _ _ _ ?_); cbv) | ((with_reducible refine hA.len _ _ _ _ _ fun z hz hb => ?_); cbv) | ((with_reducible refine hA.off _ _ _ _ fun b hb => ?_); cbv) | ((with_reducible refine hA.sapp _ _ _ ⟨?_, fun sl hsl => ?_⟩); rotate_left; cbv) | (simp only [hA.natLit, hA.natOf, hA.natCast]; cbv)
      all_goals try simp only [hA.add, hA.sub, hA.mul, hA.neg, hA.div, hA.mod, hA.mn, hA.mx, hA.eq, hA.lt, hA.le, hA.nat, hA.R, hA.lep, hA.ltp, hA.seq, inR, n_cast, Int.ofNat_eq_natCast, Option.getD_some, Option.getD_none] at *
      all_goals first
        | (rw [h5])
        | omega
        | (clear he; simp at *; omega)
        | (trace_state; fail))
set_option maxRecDepth 100000 in
set_option maxHeartbeats 1000000 in
theorem ok177 (l : List (List (Int × Int))) (es : List (List E)) (he : es = l.map orr) (hlen : es.length ≤ 1048576) (hb2 : ∀ d ∈ l, d.length ≤ 1048576) : Plain Try.prog 177 [.e (.sl es)] (.e (.sl es)) := okOf mixed p177 fun A P hA hP => (by
  have hl1 : es.length = l.length := by rw [he]; simp
  have hes : ∀ e ∈ es, e.length = 1 := by
    rw [he]
    intro e h
    obtain ⟨p, _, rfl⟩ := List.mem_map.1 h
    rfl
  cbv
  repeat' first | with_reducible rfl | with_reducible refine And.intro ?_ ?_ | ((with_reducible intro hcc); first | (cases hcc; done) | skip) | ((with_reducible show goC _ _ _ _ _ _ _ _); cbv) | ((with_reducible show goOps _ _ _ _ _); cbv) | ((with_reducible show okWr _ _ = _); rfl) | ((with_reducible refine hA.fin_pl _ _ _ ?_); cbv) | ((with_reducible refine hA.len _ _ _ _ _ fun z hz hb => ?_); cbv) | ((with_reducible refine hA.off _ _ _ _ fun b hb => ?_); cbv) | ((with_reducible refine hA.rep _ _ _ fun ds m hds hm => ?_); cbv) | ((with_reducible refine hA.st _ _ _ _ _ ⟨?_, fun ds hds => ?_⟩); rotate_left; cbv) | ((with_reducible refine hA.alt _ _ (Or.inl ?_)); cbv) | ((with_reducible refine hA.sapp _ _ _ ⟨?_, fun sl hsl => ?_⟩); rotate_left; cbv) | (simp only [hA.natLit, hA.natOf, hA.natCast]; cbv)
  all_goals try simp only [hA.add, hA.sub, hA.mul, hA.neg, hA.div, hA.mod, hA.mn, hA.mx, hA.eq, hA.lt, hA.le, hA.nat, hA.R, hA.lep, hA.ltp, hA.seq, inR, n_cast, Int.ofNat_eq_natCast, Option.getD_some, Option.getD_none] at *
  · omega
  · omega
  · refine hA.loopI (fun n s => ∃ (i : Int) (xs : List (List E)), 0 ≤ i ∧ n + i = es.length ∧ xs.length = es.length ∧ (∀ e ∈ xs, e.length = 1) ∧ (∀ j : Nat, j < i → xs[j]? = es[j]?) ∧
        s = ⟨[(4, .int i), (3, .bs 0 0 m 1), (2, .zs), (0, .e (.sl es))], [.box (xs.flatten.map .e)]⟩) es.length _
      (Weak.keep (env' := [(4, .int 0), (3, .bs 0 0 m 1), (2, .zs), (0, .e (.sl es))]) ⟨rfl, rfl, rfl, rfl, trivial⟩)
      ⟨0, List.replicate m [E.sl []], by omega, by omega, by simp; omega, by simp, fun j hj => by omega, by rw [← buf_zero, hm]; rw [hds]; rfl⟩ ?_
    rintro n s K ⟨i, xs, h0, h1, h2, h3, h4, rfl⟩ hK
    obtain ⟨ys, hys⟩ : ∃ ys, ys = xs.flatten.map D.e := ⟨_, rfl⟩
    have hyl : ys.length = xs.length * 1 := by rw [hys, List.length_map, flatten_len h3]
    rw [← hys]
    by_cases hin : (0 : Int) ≤ i ∧ i < es.length
    · obtain ⟨r1, e1, q1⟩ := row_at he hin
      obtain ⟨x1, hx1⟩ : ∃ x, x = r1.map orow := ⟨_, rfl⟩
      have e1 : es.getD i.toNat [] = [E.sl x1] := e1.trans (by rw [hx1])
      have hc := ok176 r1 x1 hx1 (by rw [hx1, List.length_map]; exact hb2 _ (List.mem_of_getElem? q1))
      have hrow0 : es[i.toNat]? = some (es.getD i.toNat []) := by
        have : i.toNat < es.length := by omega
        simp [List.getD, this]
      have hrl : (es.getD i.toNat []).length = 1 := hes _ (List.mem_of_getElem? hrow0)
      cbv
      repeat' first | with_reducible rfl | with_reducible refine And.intro ?_ ?_ | ((with_reducible intro hcc); first | (cases hcc; done) | skip) | ((with_reducible show goC _ _ _ _ _ _ _ _); cbv) | ((with_reducible show goOps _ _ _ _ _); cbv) | ((with_reducible show okWr _ _ = _); rfl) | ((with_reducible refine callK_eq hA hP ?_ ?_ ?_ (Wks.refl _) (fun _ _ => hc)); exact rfl; exact rfl; cbv) | ((with_reducible refine hA.row es _ _ ⟨hin, fun row hrow => ?_⟩); rw [e1] at hrow; subst hrow; cbv) | ((with_reducible refine hA.fin_pl _ _ _ ?_); cbv) | ((with_reducible refine hA.len _ _ _ _ _ fun z hz hb => ?_); cbv) | ((with_reducible refine hA.off _ _ _ _ fun b hb => ?_); cbv) | ((with_reducible refine hA.rep _ _ _ fun ds m hds hm => ?_); cbv) | ((with_reducible refine hA.st _ _ _ _ _ ⟨?_, fun ds hds => ?_⟩); rotate_left; cbv) | ((with_reducible refine hA.alt _ _ (Or.inl ?_)); cbv) | ((with_reducible refine hA.sapp _ _ _ ⟨?_, fun sl hsl => ?_⟩); rotate_left; cbv) | (simp only [hA.natLit, hA.natOf, hA.natCast]; cbv)
      all_goals try simp only [hA.add, hA.sub, hA.mul, hA.neg, hA.div, hA.mod, hA.mn, hA.mx, hA.eq, hA.lt, hA.le, hA.nat, hA.R, hA.lep, hA.ltp, hA.seq, inR, n_cast, Int.ofNat_eq_natCast, Option.getD_some, Option.getD_none] at *
      all_goals first
        | (show _ < (m : Int); omega)
        | omega
        | (clear hK h4 he; grind; done)
        | (have hb' : b = i.toNat * 1 := by omega
           refine hK _ (n - 1) _ (by omega) (Weak.keep (env' := [(4, .int (i + 1)), (3, .bs 0 0 m 1), (2, .zs), (0, .e (.sl es))]) ⟨rfl, rfl, rfl, rfl, trivial⟩)
             ⟨i + 1, xs.set i.toNat (es.getD i.toNat []), by omega, by omega, by simp [h2], fun e h => ?_, fun j hj => ?_, ?_⟩
           · rcases List.mem_or_eq_of_mem_set h with h | rfl
             · exact h3 e h
             · exact hrl
           · by_cases hji : (j : Int) < i
             · rw [List.getElem?_set_ne (show i.toNat ≠ j by omega)]; exact h4 j hji
             · have : j = i.toNat := by omega
               subst this
               rw [List.getElem?_set_self (show i.toNat < xs.length by omega), hrow0]
           · congr 2
             rw [hds, hys, hb']
             congr 1
             have q := buf_set (k := 1) (by omega) h3 (i := i.toNat) (show i.toNat < xs.length by omega) hrl
             rw [e1] at q ⊢
             exact q)
    · have hxe : xs = es := by
        refine List.ext_getElem? fun j => ?_
        by_cases hj : (j : Int) < i
        · exact h4 j hj
        · rw [List.getElem?_eq_none (by omega), List.getElem?_eq_none (by omega)]
      cbv
      repeat' first | with_reducible rfl | with_reducible refine And.intro ?_ ?_ | ((with_reducible intro hcc); first | (cases hcc; done) | skip) | ((with_reducible show goC _ _ _ _ _ _ _ _); cbv) | ((with_reducible show goOps _ _ _ _ _); cbv) | ((with_reducible show okWr _ _ = _); rfl) | (exfalso; simp only [hA.lt, hA.sub, decide_eq_true_eq, decide_eq_false_iff_not, n_cast] at *; omega) | ((with_reducible refine hA.fin_bs (es := es) ?_ ?_ hes)) | ((with_reducible refine hA.fin_pl _ _ _ ?_); cbv) | ((with_reducible refine hA.len _ _ _ _ _ fun z hz hb => ?_); cbv) | ((with_reducible refine hA.off _ _ _ _ fun b hb => ?_); cbv) | ((with_reducible refine hA.rep _ _ _ fun ds m hds hm => ?_); cbv) | ((with_reducible refine hA.st _ _ _ _ _ ⟨?_, fun ds hds => ?_⟩); rotate_left; cbv) | ((with_reducible refine hA.alt _ _ (Or.inl ?_)); cbv) | ((with_reducible refine hA.sapp _ _ _ ⟨?_, fun sl hsl => ?_⟩); rotate_left; cbv) | (simp only [hA.natLit, hA.natOf, hA.natCast]; cbv)
      all_goals try simp only [hA.add, hA.sub, hA.mul, hA.neg, hA.div, hA.mod, hA.mn, hA.mx, hA.eq, hA.lt, hA.le, hA.nat, hA.R, hA.lep, hA.ltp, hA.seq, inR, n_cast, Int.ofNat_eq_natCast, Option.getD_some, Option.getD_none] at *
      all_goals first
        | (rw [hys, hxe]; rfl)
        | omega
        | (clear hK h4 he; grind; done)
        | (trace_state; fail))
set_option maxRecDepth 100000 in
theorem ok185 (l l' : List (List (Int × Int))) (es fs : List (List E)) (he : es = l.map orr) (hf : fs = l'.map orr) : Plain Try.prog 185 [.e (.sl es), .e (.sl fs)] (.bool (decide (l = l'))) := okOf mixed p185 fun A P hA hP => (by
  obtain ⟨r, hr⟩ : ∃ r : Bool, r = decide (l = l') := ⟨_, rfl⟩
  rw [← hr]
  have hl1 : es.length = l.length := by rw [he]; simp
  have hl2 : fs.length = l'.length := by rw [hf]; simp
  cbv
  repeat' first | with_reducible rfl | with_reducible refine And.intro ?_ ?_ | ((with_reducible intro hcc); first | (cases hcc; done) | skip) | ((with_reducible show goC _ _ _ _ _ _ _ _); cbv) | ((with_reducible show goOps _ _ _ _ _); cbv) | ((with_reducible show okWr _ _ = _); rfl) | ((with_reducible refine hA.fin_pl _ _ _ ?_); cbv) | ((with_reducible refine hA.len _ _ _ _ _ fun z hz hb => ?_); cbv) | ((with_reducible refine hA.off _ _ _ _ fun b hb => ?_); cbv) | ((with_reducible refine hA.sapp _ _ _ ⟨?_, fun sl hsl => ?_⟩); rotate_left; cbv) | (simp only [hA.natLit, hA.natOf, hA.natCast]; cbv)
  all_goals try simp only [hA.add, hA.sub, hA.mul, hA.neg, hA.div, hA.mod, hA.mn, hA.mx, hA.eq, hA.lt, hA.le, hA.nat, hA.R, hA.lep, hA.ltp, hA.seq, inR, n_cast, Int.ofNat_eq_natCast, Option.getD_some, Option.getD_none] at *
  · have : l ≠ l' := fun e => by subst e; clear hr; grind
    rw [hr]; simp [this]
  · have hzz : es.length = fs.length := by clear hr; grind
    refine hA.loopI (fun n s => ∃ i : Int, 0 ≤ i ∧ n + i = l.length ∧ (∀ j : Nat, j < i → l[j]? = l'[j]?) ∧ s = ⟨[(5, .int i), (4, .bool false), (0, .e (.sl es)), (1, .e (.sl fs))], []⟩) l.length _ (Weak.keep (env' := [(5, .int 0), (4, .bool false), (0, .e (.sl es)), (1, .e (.sl fs))]) ⟨rfl, rfl, rfl, rfl, trivial⟩) ⟨0, by omega, by omega, fun j hj => by omega, rfl⟩ ?_
    rintro n s K ⟨i, h0, h1, h2, rfl⟩ hK
    by_cases hin : (0 : Int) ≤ i ∧ i < es.length
    · have hin2 : (0 : Int) ≤ i ∧ i < fs.length := by omega
      obtain ⟨r1, e1, q1⟩ := row_at he hin
      obtain ⟨r2, e2, q2⟩ := row_at hf hin2
      obtain ⟨x1, hx1⟩ : ∃ x, x = r1.map orow := ⟨_, rfl⟩
      have e1 : es.getD i.toNat [] = [E.sl x1] := e1.trans (by rw [hx1])
      obtain ⟨x2, hx2⟩ : ∃ x, x = r2.map orow := ⟨_, rfl⟩
      have e2 : fs.getD i.toNat [] = [E.sl x2] := e2.trans (by rw [hx2])
      have hc := ok184 r1 r2 x1 x2 hx1 hx2
      obtain ⟨c, hcc⟩ : ∃ c : Bool, c = decide ((r1 : List (Int × Int)) = r2) := ⟨_, rfl⟩
      rw [← hcc] at hc
      have c1 : c = false → r = false := fun e => by
        rw [hr, decide_eq_false_iff_not]
        intro e'
        subst e'
        rw [q1] at q2
        cases q2
        rw [e] at hcc
        simp at hcc
      have c2 : c = true → l[i.toNat]? = l'[i.toNat]? := fun e => by
        rw [e] at hcc
        rw [q1, q2, of_decide_eq_true hcc.symm]
      clear hcc hr
      cbv
      repeat' first | with_reducible rfl | with_reducible refine And.intro ?_ ?_ | ((with_reducible intro hcc); first | (cases hcc; done) | skip) | ((with_reducible show goC _ _ _ _ _ _ _ _); cbv) | ((with_reducible show goOps _ _ _ _ _); cbv) | ((with_reducible show okWr _ _ = _); rfl) | ((with_reducible refine callK_eq hA hP ?_ ?_ ?_ (Wks.refl _) (fun _ _ => hc)); exact rfl; exact rfl; cbv) | ((with_reducible refine hA.row es _ _ ⟨hin, fun row hrow => ?_⟩); rw [e1] at hrow; subst hrow; cbv) | ((with_reducible refine hA.row fs _ _ ⟨hin2, fun row hrow => ?_⟩); rw [e2] at hrow; subst hrow; cbv) | ((with_reducible refine hA.fin_pl _ _ _ ?_); cbv) | ((with_reducible refine hA.len _ _ _ _ _ fun z hz hb => ?_); cbv) | ((with_reducible refine hA.off _ _ _ _ fun b hb => ?_); cbv) | ((with_reducible refine hA.sapp _ _ _ ⟨?_, fun sl hsl => ?_⟩); rotate_left; cbv) | (simp only [hA.natLit, hA.natOf, hA.natCast]; cbv)
      all_goals try simp only [hA.add, hA.sub, hA.mul, hA.neg, hA.div, hA.mod, hA.mn, hA.mx, hA.eq, hA.lt, hA.le, hA.nat, hA.R, hA.lep, hA.ltp, hA.seq, inR, n_cast, Int.ofNat_eq_natCast, Option.getD_some, Option.getD_none] at *
      all_goals first
        | omega
        | (refine hK _ (n - 1) _ (by omega) (Weak.gc (env' := [(5, .int (i + 1)), (4, .bool false), (0, .e (.sl es)), (1, .e (.sl fs))]) ⟨rfl, rfl, rfl, rfl, trivial⟩ rfl) ⟨i + 1, by omega, by omega, fun j hj => ?_, rfl⟩
           by_cases hji : (j : Int) < i
           · exact h2 j hji
           · have : j = i.toNat := by omega
             rw [this]
             exact c2 (by clear hK h2; grind))
        | (clear hK h2 he hf e1 e2; grind; done)
        | (trace_state; fail)
    · have hll : l = l' := by
        refine List.ext_getElem? fun j => ?_
        by_cases hj : (j : Int) < i
        · exact h2 j hj
        · rw [List.getElem?_eq_none (by omega), List.getElem?_eq_none (by omega)]
      have hr2 : r = true := by rw [hr, hll]; simp
      clear hr
      cbv
      repeat' first | with_reducible rfl | with_reducible refine And.intro ?_ ?_ | ((with_reducible intro hcc); first | (cases hcc; done) | skip) | ((with_reducible show goC _ _ _ _ _ _ _ _); cbv) | ((with_reducible show goOps _ _ _ _ _); cbv) | ((with_reducible show okWr _ _ = _); rfl) | (exfalso; simp only [hA.lt, hA.sub, decide_eq_true_eq, decide_eq_false_iff_not, n_cast] at *; omega) | ((with_reducible refine hA.fin_pl _ _ _ ?_); cbv) | ((with_reducible refine hA.len _ _ _ _ _ fun z hz hb => ?_); cbv) | ((with_reducible refine hA.off _ _ _ _ fun b hb => ?_); cbv) | ((with_reducible refine hA.sapp _ _ _ ⟨?_, fun sl hsl => ?_⟩); rotate_left; cbv) | (simp only [hA.natLit, hA.natOf, hA.natCast]; cbv)
      all_goals try simp only [hA.add, hA.sub, hA.mul, hA.neg, hA.div, hA.mod, hA.mn, hA.mx, hA.eq, hA.lt, hA.le, hA.nat, hA.R, hA.lep, hA.ltp, hA.seq, inR, n_cast, Int.ofNat_eq_natCast, Option.getD_some, Option.getD_none] at *
      all_goals first
        | (rw [hr2])
        | omega
        | (clear hK h2 hll he hf; grind; done)
        | (trace_state; fail))
set_option maxRecDepth 100000 in
theorem ok126 (K1 T1 M1 W1 : Int) (Ex1 : List (Int × Int)) (Exs1 : List (List (Int × Int))) (L1 R1 : Int) (x1 y1 : List (List E)) (hx1 : x1 = Ex1.map orow) (hy1 : y1 = Exs1.map orr) (left : Int) (h : 0 ≤ left ∧ left ≤ 1048576) : Plain Try.prog 126 [.agg [.int K1, .int T1, .int M1, .int W1, .e (.sl x1), .e (.sl y1), .int L1, .int R1], .int left] (.int (cut left (cFd ⟨K1, T1, M1, W1, Ex1, Exs1, L1, R1⟩))) := okOf mixed p126 fun A P hA hP => (by
  obtain ⟨r, hr⟩ : ∃ r, r = cut left (cFd ⟨K1, T1, M1, W1, Ex1, Exs1, L1, R1⟩) := ⟨_, rfl⟩
  rw [← hr]
  obtain ⟨c, hc⟩ : ∃ c, c = cO Ex1 := ⟨_, rfl⟩
  obtain ⟨b, hb⟩ : ∃ b, b = left - c := ⟨_, rfl⟩
  have hc0 : 0 ≤ c := hc ▸ cO_nonneg _
  have hs := cOS_nonneg Exs1
  have hr2 : r = if b - cOS Exs1 < 0 then -1 else b - cOS Exs1 := by
    rw [hr, cut]
    show (if left - (cO Ex1 + cOS Exs1) < 0 then (-1 : Int) else left - (cO Ex1 + cOS Exs1)) = _
    rw [← hc, show left - (c + cOS Exs1) = b - cOS Exs1 by omega]
  have h30 := ok172' Ex1 x1 hx1 left h
  rw [← hc] at h30
  obtain ⟨u, hu⟩ : ∃ u, u = cut left c := ⟨_, rfl⟩
  rw [← hu] at h30
  rw [cut, ← hb] at hu
  clear hr hc
  by_cases hb0 : b < 0
  · have hrr : r = -1 := by rw [hr2]; split <;> omega
    rw [if_pos hb0] at hu
    have e1 : A.lt u 0 = true := by rw [hA.lt]; exact decide_eq_true (by omega)
    cbv
    repeat' first | with_reducible rfl | (simp only [e1]; cbv) | with_reducible refine And.intro ?_ ?_ | ((with_reducible intro hcc); first | (cases hcc; done) | skip) | ((with_reducible show goC _ _ _ _ _ _ _ _); cbv) | ((with_reducible show goOps _ _ _ _ _); cbv) | ((with_reducible show okWr _ _ = _); rfl) | ((with_reducible refine callK_eq hA hP ?_ ?_ ?_ (Wks.refl _) (fun _ _ => h30)); exact rfl; exact rfl; cbv) | ((with_reducible refine hA.fin_pl _ _ _ ?_); cbv) | (simp only [hA.natLit, hA.natOf, hA.natCast]; cbv)
    all_goals try simp only [hA.add, hA.sub, hA.mul, hA.neg, hA.div, hA.mod, hA.mn, hA.mx, hA.eq, hA.lt, hA.le, hA.nat, hA.R, hA.lep, hA.ltp, hA.seq, inR, n_cast, Int.ofNat_eq_natCast, Option.getD_some, Option.getD_none] at *
    all_goals first | omega | (rw [hrr]; done) | (trace_state; fail)
  · rw [if_neg hb0] at hu
    have e1 : A.lt u 0 = false := by rw [hA.lt]; exact decide_eq_false (by omega)
    have h311 : Plain Try.prog 173 [.e (.sl y1), .int u] (.int r) := by rw [hr2, hu]; exact ok173 Exs1 _ hy1 b (by omega)
    by_cases hr0 : r < 0
    · have e2 : A.lt r 0 = true := by rw [hA.lt]; exact decide_eq_true hr0
      have hrr : r = -1 := by rw [hr2] at hr0 ⊢; split at hr0 <;> split <;> omega
      cbv
      repeat' first | with_reducible rfl | (simp only [e2]; cbv) | (simp only [e1]; cbv) | with_reducible refine And.intro ?_ ?_ | ((with_reducible intro hcc); first | (cases hcc; done) | skip) | ((with_reducible show goC _ _ _ _ _ _ _ _); cbv) | ((with_reducible show goOps _ _ _ _ _); cbv) | ((with_reducible show okWr _ _ = _); rfl) | ((with_reducible refine callK_eq hA hP ?_ ?_ ?_ (Wks.refl _) (fun _ _ => h30)); exact rfl; exact rfl; cbv) | ((with_reducible refine callK_eq hA hP ?_ ?_ ?_ (Wks.refl _) (fun _ _ => h311)); exact rfl; exact rfl; cbv) | ((with_reducible refine hA.fin_pl _ _ _ ?_); cbv) | (simp only [hA.natLit, hA.natOf, hA.natCast]; cbv)
      all_goals try simp only [hA.add, hA.sub, hA.mul, hA.neg, hA.div, hA.mod, hA.mn, hA.mx, hA.eq, hA.lt, hA.le, hA.nat, hA.R, hA.lep, hA.ltp, hA.seq, inR, n_cast, Int.ofNat_eq_natCast, Option.getD_some, Option.getD_none] at *
      all_goals first | omega | (rw [hrr]; done) | (trace_state; fail)
    · have e2 : A.lt r 0 = false := by rw [hA.lt]; exact decide_eq_false hr0
      cbv
      repeat' first | with_reducible rfl | (simp only [e2]; cbv) | (simp only [e1]; cbv) | with_reducible refine And.intro ?_ ?_ | ((with_reducible intro hcc); first | (cases hcc; done) | skip) | ((with_reducible show goC _ _ _ _ _ _ _ _); cbv) | ((with_reducible show goOps _ _ _ _ _); cbv) | ((with_reducible show okWr _ _ = _); rfl) | ((with_reducible refine callK_eq hA hP ?_ ?_ ?_ (Wks.refl _) (fun _ _ => h30)); exact rfl; exact rfl; cbv) | ((with_reducible refine callK_eq hA hP ?_ ?_ ?_ (Wks.refl _) (fun _ _ => h311)); exact rfl; exact rfl; cbv) | ((with_reducible refine hA.fin_pl _ _ _ ?_); cbv) | (simp only [hA.natLit, hA.natOf, hA.natCast]; cbv)
      all_goals try simp only [hA.add, hA.sub, hA.mul, hA.neg, hA.div, hA.mod, hA.mn, hA.mx, hA.eq, hA.lt, hA.le, hA.nat, hA.R, hA.lep, hA.ltp, hA.seq, inR, n_cast, Int.ofNat_eq_natCast, Option.getD_some, Option.getD_none] at *
      all_goals first | omega | rfl | (trace_state; fail))
set_option maxRecDepth 100000 in
theorem ok71 (l : List (Fd)) (es : List (List E)) (he : es = l.map fdr) (left : Int) (h : 0 ≤ left ∧ left ≤ 1048576) : Plain Try.prog 71 [.e (.sl es), .int left] (.int (cut left (l.length + sumC cFd l))) := okOf mixed p71 fun A P hA hP => (by
  have hl1 : es.length = l.length := by rw [he]; simp
  have hsn : ∀ l : List (Fd), 0 ≤ sumC cFd l := sumC_nonneg cFd_nonneg
  obtain ⟨r, hr⟩ : ∃ r, r = cut left (l.length + sumC cFd l) := ⟨_, rfl⟩
  rw [← hr]
  have hr2 : r = cut (left - es.length) (sumC cFd l) := by rw [hr, hl1, cut, cut]; congr 1 <;> (try apply propext) <;> omega
  clear hr
  cbv
  repeat' first | with_reducible rfl | with_reducible refine And.intro ?_ ?_ | ((with_reducible intro hcc); first | (cases hcc; done) | skip) | ((with_reducible show goC _ _ _ _ _ _ _ _); cbv) | ((with_reducible show goOps _ _ _ _ _); cbv) | ((with_reducible show okWr _ _ = _); rfl) | ((with_reducible refine hA.fin_pl _ _ _ ?_); cbv) | ((with_reducible refine hA.len _ _ _ _ _ fun z hz hb => ?_); cbv) | ((with_reducible refine hA.off _ _ _ _ fun b hb => ?_); cbv) | ((with_reducible refine hA.sapp _ _ _ ⟨?_, fun sl hsl => ?_⟩); rotate_left; cbv) | (simp only [hA.natLit, hA.natOf, hA.natCast]; cbv)
  all_goals try simp only [hA.add, hA.sub, hA.mul, hA.neg, hA.div, hA.mod, hA.mn, hA.mx, hA.eq, hA.lt, hA.le, hA.nat, hA.R, hA.lep, hA.ltp, hA.seq, inR, n_cast, Int.ofNat_eq_natCast, Option.getD_some, Option.getD_none] at *
  all_goals try (first | omega | (have := hb trivial trivial trivial; omega) | (have : r = -1 := (by simp only [decide_eq_true_eq] at *; have := hsn l; rw [hr2]; unfold cut; split <;> omega); rw [this]; done))
  · refine hA.loopI (fun n s => ∃ (i lf : Int), 0 ≤ i ∧ n + i = es.length ∧ 0 ≤ lf ∧ lf ≤ 1048576 ∧ r = cut lf (sumC cFd (l.drop i.toNat)) ∧
        s = ⟨[(5, .int i), (0, .e (.sl es)), (1, .int lf), (4, .int 0)], []⟩) es.length _
      (Weak.keep (env' := [(5, .int 0), (0, .e (.sl es)), (1, .int (left - z)), (4, .int 0)]) ⟨rfl, rfl, rfl, rfl, trivial⟩) ⟨0, left - z, by omega, by omega, by simp only [decide_eq_false_iff_not] at *; omega, by omega, (by rw [hr2, hz]; rfl), rfl⟩ ?_
    rintro n s K ⟨i, lf, h0, h1, h2, h3, h4, rfl⟩ hK
    clear hr2
    by_cases hin : (0 : Int) ≤ i ∧ i < es.length
    · obtain ⟨⟨K1, T1, M1, W1, Ex1, Exs1, L1, R1⟩, e1, q1⟩ := row_at he hin
      obtain ⟨x1, hx1⟩ : ∃ x, x = Ex1.map orow := ⟨_, rfl⟩
      obtain ⟨y1, hy1⟩ : ∃ x, x = Exs1.map orr := ⟨_, rfl⟩
      have e1 : es.getD i.toNat [] = [E.int K1, E.int T1, E.int M1, E.int W1, E.sl x1, E.sl y1, E.int L1, E.int R1] := e1.trans (by rw [hx1, hy1])
      rw [sumC_drop q1] at h4
      obtain ⟨S, hS⟩ : ∃ S, S = sumC cFd (l.drop (i.toNat + 1)) := ⟨_, rfl⟩
      have hS0 : 0 ≤ S := hS ▸ hsn _
      obtain ⟨c, hcost⟩ : ∃ c, c = cFd ⟨K1, T1, M1, W1, Ex1, Exs1, L1, R1⟩ := ⟨_, rfl⟩
      have hc0 : 0 ≤ c := hcost ▸ cFd_nonneg _
      have hc := ok126 K1 T1 M1 W1 Ex1 Exs1 L1 R1 x1 y1 hx1 hy1 lf ⟨h2, h3⟩
      rw [← hS, ← hcost] at h4
      rw [← hcost] at hc
      obtain ⟨u, hu⟩ : ∃ u, u = cut lf c := ⟨_, rfl⟩
      rw [← hu] at hc
      have e8 : (i + 1).toNat = i.toNat + 1 := by omega
      have g1 : u < 0 → r = -1 := fun a => by rw [h4]; unfold cut at hu ⊢; split at hu <;> split <;> omega
      have g2 : 0 ≤ u → r = cut u S ∧ u ≤ lf := fun a => by
        have hu2 : u = lf - c := by rw [hu] at a ⊢; unfold cut at a ⊢; split at a <;> split <;> omega
        refine ⟨?_, by omega⟩
        rw [h4, hu2]
        unfold cut
        rw [show lf - (c + S) = lf - c - S by omega]
      clear h4 hu hcost
      cbv
      repeat' first | with_reducible rfl | with_reducible refine And.intro ?_ ?_ | ((with_reducible intro hcc); first | (cases hcc; done) | skip) | ((with_reducible show goC _ _ _ _ _ _ _ _); cbv) | ((with_reducible show goOps _ _ _ _ _); cbv) | ((with_reducible show okWr _ _ = _); rfl) | ((with_reducible refine callK_eq hA hP ?_ ?_ ?_ (Wks.refl _) (fun _ _ => hc)); exact rfl; exact rfl; cbv) | ((with_reducible refine hA.row es _ _ ⟨hin, fun row hrow => ?_⟩); rw [e1] at hrow; subst hrow; cbv) | ((with_reducible refine hA.fin_pl _ _ _ ?_); cbv) | ((with_reducible refine hA.len _ _ _ _ _ fun z hz hb => ?_); cbv) | ((with_reducible refine hA.off _ _ _ _ fun b hb => ?_); cbv) | ((with_reducible refine hA.sapp _ _ _ ⟨?_, fun sl hsl => ?_⟩); rotate_left; cbv) | (simp only [hA.natLit, hA.natOf, hA.natCast]; cbv)
      all_goals try simp only [hA.add, hA.sub, hA.mul, hA.neg, hA.div, hA.mod, hA.mn, hA.mx, hA.eq, hA.lt, hA.le, hA.nat, hA.R, hA.lep, hA.ltp, hA.seq, inR, n_cast, Int.ofNat_eq_natCast, Option.getD_some, Option.getD_none] at *
      all_goals first
        | omega
        | (clear hK g1 g2 he; simp at *; omega)
        | (rw [g1 (by clear hK g2; simp at *; omega)]; done)
        | (have hu0 : 0 ≤ u := (by clear hK; simp at *; omega)
           exact hK _ (n - 1) _ (by omega) (Weak.keep (env' := [(5, .int (i + 1)), (0, .e (.sl es)), (1, .int u), (4, .int 0)]) ⟨rfl, rfl, rfl, rfl, trivial⟩) ⟨i + 1, u, by omega, by omega, hu0, by have := (g2 hu0).2; omega, by rw [e8, ← hS]; exact (g2 hu0).1, rfl⟩)
        | (clear hK g1 g2 he; simp at *; omega)
        | (trace_state; fail)
    · have hd : l.drop i.toNat = [] := by rw [List.drop_eq_nil_iff]; omega
      rw [hd] at h4
      have h5 : r = lf := by rw [h4, sumC, cut, if_neg (by omega)]; omega
      clear h4 hK
      cbv
      repeat' first | with_reducible rfl | with_reducible refine And.intro ?_ ?_ | ((with_reducible intro hcc); first | (cases hcc; done) | skip) | ((with_reducible show goC _ _ _ _ _ _ _ _); cbv) | ((with_reducible show goOps _ _ _ _ _); cbv) | ((with_reducible show okWr _ _ = _); rfl) | (exfalso; simp only [hA.lt, hA.sub, decide_eq_true_eq, decide_eq_false_iff_not, n_cast] at *; omega) | ((with_reducible refine hA.fin_pl _ _ _ ?_); cbv) | ((with_reducible refine hA.len _ _ _ _ _ fun z hz hb => ?_); cbv) | ((with_reducible refine hA.off _ _ _ _ fun b hb => ?_); cbv) | ((with_reducible refine hA.sapp _ _ _ ⟨?_, fun sl hsl => ?_⟩); rotate_left; cbv) | (simp only [hA.natLit, hA.natOf, hA.natCast]; cbv)
      all_goals try simp only [hA.add, hA.sub, hA.mul, hA.neg, hA.div, hA.mod, hA.mn, hA.mx, hA.eq, hA.lt, hA.le, hA.nat, hA.R, hA.lep, hA.ltp, hA.seq, inR, n_cast, Int.ofNat_eq_natCast, Option.getD_some, Option.getD_none] at *
      all_goals first
        | (rw [h5])
        | omega
        | (clear he; simp at *; omega)
        | (trace_state; fail))
theorem ok27 (ns : List Fd) (rt : Int) (x : List (List E)) (hx : x = ns.map fdr) (left : Int) (h : 0 ≤ left ∧ left ≤ 1048576) : Plain Try.prog 27 [.agg [.e (.sl x), .int rt], .int left] (.int (cut left (cFS ns))) := okOf mixed p27 fun A P hA hP => (by
  have h236 : Plain Try.prog 71 [.e (.sl x), .int left] (.int (cut left (cFS ns))) := ok71 ns _ hx left h
  obtain ⟨u, hu⟩ : ∃ u, u = cut left (cFS ns) := ⟨_, rfl⟩
  rw [← hu] at h236 ⊢
  have hu2 : u < 0 → u = -1 := fun a => by rw [hu, cut] at a ⊢; split at a <;> split <;> omega
  clear hu
  cbv
  repeat' first | with_reducible rfl | with_reducible refine And.intro ?_ ?_ | ((with_reducible intro hcc); first | (cases hcc; done) | skip) | ((with_reducible show goC _ _ _ _ _ _ _ _); cbv) | ((with_reducible show goOps _ _ _ _ _); cbv) | ((with_reducible show okWr _ _ = _); rfl) | ((with_reducible refine callK_eq hA hP ?_ ?_ ?_ (Wks.refl _) (fun _ _ => h236)); exact rfl; exact rfl; cbv) | ((with_reducible refine hA.fin_pl _ _ _ ?_); cbv) | (simp only [hA.natLit, hA.natOf, hA.natCast]; cbv)
  all_goals try simp only [hA.add, hA.sub, hA.mul, hA.neg, hA.div, hA.mod, hA.mn, hA.mx, hA.eq, hA.lt, hA.le, hA.nat, hA.R, hA.lep, hA.ltp, hA.seq, inR, n_cast, Int.ofNat_eq_natCast, Option.getD_some, Option.getD_none] at *
  all_goals first | rfl | omega | (rw [hu2 (by simp at *; omega)]) | (trace_state; fail))
set_option maxRecDepth 100000 in
theorem ok133 (K1 T1 M1 W1 : Int) (Ex1 : List (Int × Int)) (Exs1 : List (List (Int × Int))) (L1 R1 : Int) (x1 y1 : List (List E)) (hx1 : x1 = Ex1.map orow) (hy1 : y1 = Exs1.map orr) (h1 : Ex1.length ≤ 1048576) (h2 : Exs1.length ≤ 1048576) (h3 : ∀ e ∈ Exs1, e.length ≤ 1048576) : Plain Try.prog 133 [.agg [.int K1, .int T1, .int M1, .int W1, .e (.sl x1), .e (.sl y1), .int L1, .int R1]] (.agg [.int K1, .int T1, .int M1, .int W1, .e (.sl x1), .e (.sl y1), .int L1, .int R1]) := okOf mixed p133 fun A P hA hP => (by
  have h32 := ok176 Ex1 x1 hx1 (by rw [hx1, List.length_map]; exact h1)
  have h314 := ok177 Exs1 y1 hy1 (by rw [hy1, List.length_map]; exact h2) h3
  cbv
  repeat' first | with_reducible rfl | with_reducible refine And.intro ?_ ?_ | ((with_reducible intro hcc); first | (cases hcc; done) | skip) | ((with_reducible show goC _ _ _ _ _ _ _ _); cbv) | ((with_reducible show goOps _ _ _ _ _); cbv) | ((with_reducible show okWr _ _ = _); rfl) | ((with_reducible refine callK_eq hA hP ?_ ?_ ?_ (Wks.refl _) (fun _ _ => h32)); exact rfl; exact rfl; cbv) | ((with_reducible refine callK_eq hA hP ?_ ?_ ?_ (Wks.refl _) (fun _ _ => h314)); exact rfl; exact rfl; cbv) | ((with_reducible refine hA.fin_pl _ _ _ ?_); cbv) | ((with_reducible refine hA.st _ _ _ _ _ ⟨?_, fun ds hds => ?_⟩); rotate_left; cbv) | (simp only [hA.natLit, hA.natOf, hA.natCast]; cbv)
  all_goals try simp only [hA.add, hA.sub, hA.mul, hA.neg, hA.div, hA.mod, hA.mn, hA.mx, hA.eq, hA.lt, hA.le, hA.nat, hA.R, hA.lep, hA.ltp, hA.seq, inR, n_cast, Int.ofNat_eq_natCast, Option.getD_some, Option.getD_none] at *
  )
set_option maxRecDepth 100000 in
set_option maxHeartbeats 1000000 in
theorem ok75 (l : List (Fd)) (es : List (List E)) (he : es = l.map fdr) (hlen : es.length ≤ 1048576) (hb2 : ∀ d ∈ l, d.Ex.length ≤ 1048576 ∧ d.Exs.length ≤ 1048576 ∧ ∀ e ∈ d.Exs, e.length ≤ 1048576) : Plain Try.prog 75 [.e (.sl es)] (.e (.sl es)) := okOf mixed p75 fun A P hA hP => (by
  have hl1 : es.length = l.length := by rw [he]; simp
  have hes : ∀ e ∈ es, e.length = 8 := by
    rw [he]
    intro e h
    obtain ⟨p, _, rfl⟩ := List.mem_map.1 h
    rfl
  cbv
  repeat' first | with_reducible rfl | with_reducible refine And.intro ?_ ?_ | ((with_reducible intro hcc); first | (cases hcc; done) | skip) | ((with_reducible show goC _ _ _ _ _ _ _ _); cbv) | ((with_reducible show goOps _ _ _ _ _); cbv) | ((with_reducible show okWr _ _ = _); rfl) | ((with_reducible refine hA.fin_pl _ _ _ ?_); cbv) | ((with_reducible refine hA.len _ _ _ _ _ fun z hz hb => ?_); cbv) | ((with_reducible refine hA.off _ _ _ _ fun b hb => ?_); cbv) | ((with_reducible refine hA.rep _ _ _ fun ds m hds hm => ?_); cbv) | ((with_reducible refine hA.st _ _ _ _ _ ⟨?_, fun ds hds => ?_⟩); rotate_left; cbv) | ((with_reducible refine hA.alt _ _ (Or.inl ?_)); cbv) | ((with_reducible refine hA.sapp _ _ _ ⟨?_, fun sl hsl => ?_⟩); rotate_left; cbv) | (simp only [hA.natLit, hA.natOf, hA.natCast]; cbv)
  all_goals try simp only [hA.add, hA.sub, hA.mul, hA.neg, hA.div, hA.mod, hA.mn, hA.mx, hA.eq, hA.lt, hA.le, hA.nat, hA.R, hA.lep, hA.ltp, hA.seq, inR, n_cast, Int.ofNat_eq_natCast, Option.getD_some, Option.getD_none] at *
  · omega
  · omega
  · refine hA.loopI (fun n s => ∃ (i : Int) (xs : List (List E)), 0 ≤ i ∧ n + i = es.length ∧ xs.length = es.length ∧ (∀ e ∈ xs, e.length = 8) ∧ (∀ j : Nat, j < i → xs[j]? = es[j]?) ∧
        s = ⟨[(4, .int i), (3, .bs 0 0 m 8), (2, .zs), (0, .e (.sl es))], [.box (xs.flatten.map .e)]⟩) es.length _
      (Weak.keep (env' := [(4, .int 0), (3, .bs 0 0 m 8), (2, .zs), (0, .e (.sl es))]) ⟨rfl, rfl, rfl, rfl, trivial⟩)
      ⟨0, List.replicate m [E.int 0, E.int 0, E.int 0, E.int 0, E.sl [], E.sl [], E.int 0, E.int 0], by omega, by omega, by simp; omega, by simp, fun j hj => by omega, by rw [← buf_zero, hm]; rw [hds]; rfl⟩ ?_
    rintro n s K ⟨i, xs, h0, h1, h2, h3, h4, rfl⟩ hK
    obtain ⟨ys, hys⟩ : ∃ ys, ys = xs.flatten.map D.e := ⟨_, rfl⟩
    have hyl : ys.length = xs.length * 8 := by rw [hys, List.length_map, flatten_len h3]
    rw [← hys]
    by_cases hin : (0 : Int) ≤ i ∧ i < es.length
    · obtain ⟨⟨K1, T1, M1, W1, Ex1, Exs1, L1, R1⟩, e1, q1⟩ := row_at he hin
      obtain ⟨x1, hx1⟩ : ∃ x, x = Ex1.map orow := ⟨_, rfl⟩
      obtain ⟨y1, hy1⟩ : ∃ x, x = Exs1.map orr := ⟨_, rfl⟩
      have e1 : es.getD i.toNat [] = [E.int K1, E.int T1, E.int M1, E.int W1, E.sl x1, E.sl y1, E.int L1, E.int R1] := e1.trans (by rw [hx1, hy1])
      have hc := ok133 K1 T1 M1 W1 Ex1 Exs1 L1 R1 x1 y1 hx1 hy1 (hb2 _ (List.mem_of_getElem? q1)).1 (hb2 _ (List.mem_of_getElem? q1)).2.1 (hb2 _ (List.mem_of_getElem? q1)).2.2
      have hrow0 : es[i.toNat]? = some (es.getD i.toNat []) := by
        have : i.toNat < es.length := by omega
        simp [List.getD, this]
      have hrl : (es.getD i.toNat []).length = 8 := hes _ (List.mem_of_getElem? hrow0)
      cbv
      repeat' first | with_reducible rfl | with_reducible refine And.intro ?_ ?_ | ((with_reducible intro hcc); first | (cases hcc; done) | skip) | ((with_reducible show goC _ _ _ _ _ _ _ _); cbv) | ((with_reducible show goOps _ _ _ _ _); cbv) | ((with_reducible show okWr _ _ = _); rfl) | ((with_reducible refine callK_eq hA hP ?_ ?_ ?_ (Wks.refl _) (fun _ _ => hc)); exact rfl; exact rfl; cbv) | ((with_reducible refine hA.row es _ _ ⟨hin, fun row hrow => ?_⟩); rw [e1] at hrow; subst hrow; cbv) | ((with_reducible refine hA.fin_pl _ _ _ ?_); cbv) | ((with_reducible refine hA.len _ _ _ _ _ fun z hz hb => ?_); cbv) | ((with_reducible refine hA.off _ _ _ _ fun b hb => ?_); cbv) | ((with_reducible refine hA.rep _ _ _ fun ds m hds hm => ?_); cbv) | ((with_reducible refine hA.st _ _ _ _ _ ⟨?_, fun ds hds => ?_⟩); rotate_left; cbv) | ((with_reducible refine hA.alt _ _ (Or.inl ?_)); cbv) | ((with_reducible refine hA.sapp _ _ _ ⟨?_, fun sl hsl => ?_⟩); rotate_left; cbv) | (simp only [hA.natLit, hA.natOf, hA.natCast]; cbv)
      all_goals try simp only [hA.add, hA.sub, hA.mul, hA.neg, hA.div, hA.mod, hA.mn, hA.mx, hA.eq, hA.lt, hA.le, hA.nat, hA.R, hA.lep, hA.ltp, hA.seq, inR, n_cast, Int.ofNat_eq_natCast, Option.getD_some, Option.getD_none] at *
      all_goals first
        | (show _ < (m : Int); omega)
        | omega
        | (clear hK h4 he; grind; done)
        | (have hb' : b = i.toNat * 8 := by omega
           refine hK _ (n - 1) _ (by omega) (Weak.keep (env' := [(4, .int (i + 1)), (3, .bs 0 0 m 8), (2, .zs), (0, .e (.sl es))]) ⟨rfl, rfl, rfl, rfl, trivial⟩)
             ⟨i + 1, xs.set i.toNat (es.getD i.toNat []), by omega, by omega, by simp [h2], fun e h => ?_, fun j hj => ?_, ?_⟩
           · rcases List.mem_or_eq_of_mem_set h with h | rfl
             · exact h3 e h
             · exact hrl
           · by_cases hji : (j : Int) < i
             · rw [List.getElem?_set_ne (show i.toNat ≠ j by omega)]; exact h4 j hji
             · have : j = i.toNat := by omega
               subst this
               rw [List.getElem?_set_self (show i.toNat < xs.length by omega), hrow0]
           · congr 2
             rw [hds, hys, hb']
             congr 1
             have q := buf_set (k := 8) (by omega) h3 (i := i.toNat) (show i.toNat < xs.length by omega) hrl
             rw [e1] at q ⊢
             exact q)
    · have hxe : xs = es := by
        refine List.ext_getElem? fun j => ?_
        by_cases hj : (j : Int) < i
        · exact h4 j hj
        · rw [List.getElem?_eq_none (by omega), List.getElem?_eq_none (by omega)]
      cbv
      repeat' first | with_reducible rfl | with_reducible refine And.intro ?_ ?_ | ((with_reducible intro hcc); first | (cases hcc; done) | skip) | ((with_reducible show goC _ _ _ _ _ _ _ _); cbv) | ((with_reducible show goOps _ _ _ _ _); cbv) | ((with_reducible show okWr _ _ = _); rfl) | (exfalso; simp only [hA.lt, hA.sub, decide_eq_true_eq, decide_eq_false_iff_not, n_cast] at *; omega) | ((with_reducible refine hA.fin_bs (es := es) ?_ ?_ hes)) | ((with_reducible refine hA.fin_pl _ _ _ ?_); cbv) | ((with_reducible refine hA.len _ _ _ _ _ fun z hz hb => ?_); cbv) | ((with_reducible refine hA.off _ _ _ _ fun b hb => ?_); cbv) | ((with_reducible refine hA.rep _ _ _ fun ds m hds hm => ?_); cbv) | ((with_reducible refine hA.st _ _ _ _ _ ⟨?_, fun ds hds => ?_⟩); rotate_left; cbv) | ((with_reducible refine hA.alt _ _ (Or.inl ?_)); cbv) | ((with_reducible refine hA.sapp _ _ _ ⟨?_, fun sl hsl => ?_⟩); rotate_left; cbv) | (simp only [hA.natLit, hA.natOf, hA.natCast]; cbv)
      all_goals try simp only [hA.add, hA.sub, hA.mul, hA.neg, hA.div, hA.mod, hA.mn, hA.mx, hA.eq, hA.lt, hA.le, hA.nat, hA.R, hA.lep, hA.ltp, hA.seq, inR, n_cast, Int.ofNat_eq_natCast, Option.getD_some, Option.getD_none] at *
      all_goals first
        | (rw [hys, hxe]; rfl)
        | omega
        | (clear hK h4 he; grind; done)
        | (trace_state; fail))
theorem ok30 (ns : List Fd) (rt : Int) (x : List (List E)) (hx : x = ns.map fdr) (h1 : ns.length ≤ 1048576) (h2 : ∀ d ∈ ns, d.Ex.length ≤ 1048576 ∧ d.Exs.length ≤ 1048576 ∧ ∀ e ∈ d.Exs, e.length ≤ 1048576) : Plain Try.prog 30 [.agg [.e (.sl x), .int rt]] (.agg [.e (.sl x), .int rt]) := okOf mixed p30 fun A P hA hP => (by
  have h238 := ok75 ns x hx (by rw [hx, List.length_map]; exact h1) h2
  cbv
  repeat' first | with_reducible rfl | with_reducible refine And.intro ?_ ?_ | ((with_reducible intro hcc); first | (cases hcc; done) | skip) | ((with_reducible show goC _ _ _ _ _ _ _ _); cbv) | ((with_reducible show goOps _ _ _ _ _); cbv) | ((with_reducible show okWr _ _ = _); rfl) | ((with_reducible refine callK_eq hA hP ?_ ?_ ?_ (Wks.refl _) (fun _ _ => h238)); exact rfl; exact rfl; cbv) | ((with_reducible refine hA.fin_pl _ _ _ ?_); cbv) | ((with_reducible refine hA.st _ _ _ _ _ ⟨?_, fun ds hds => ?_⟩); rotate_left; cbv) | (simp only [hA.natLit, hA.natOf, hA.natCast]; cbv)
  all_goals try simp only [hA.add, hA.sub, hA.mul, hA.neg, hA.div, hA.mod, hA.mn, hA.mx, hA.eq, hA.lt, hA.le, hA.nat, hA.R, hA.lep, hA.ltp, hA.seq, inR, n_cast, Int.ofNat_eq_natCast, Option.getD_some, Option.getD_none] at *
  )
set_option maxRecDepth 100000 in
theorem ok138 (K1 T1 M1 W1 : Int) (Ex1 : List (Int × Int)) (Exs1 : List (List (Int × Int))) (L1 R1 : Int) (x1 y1 : List (List E)) (hx1 : x1 = Ex1.map orow) (hy1 : y1 = Exs1.map orr) (K2 T2 M2 W2 : Int) (Ex2 : List (Int × Int)) (Exs2 : List (List (Int × Int))) (L2 R2 : Int) (x2 y2 : List (List E)) (hx2 : x2 = Ex2.map orow) (hy2 : y2 = Exs2.map orr) :
    Plain Try.prog 138 [.agg [.int K1, .int T1, .int M1, .int W1, .e (.sl x1), .e (.sl y1), .int L1, .int R1], .agg [.int K2, .int T2, .int M2, .int W2, .e (.sl x2), .e (.sl y2), .int L2, .int R2]] (.bool (decide ((⟨K1, T1, M1, W1, Ex1, Exs1, L1, R1⟩ : Fd) = ⟨K2, T2, M2, W2, Ex2, Exs2, L2, R2⟩))) := okOf mixed p138 fun A P hA hP => (by
  have h34 := ok184 Ex1 Ex2 x1 x2 hx1 hx2
  have h320 := ok185 Exs1 Exs2 y1 y2 hy1 hy2
  obtain ⟨c, hc⟩ : ∃ c, c = decide (Ex1 = Ex2) := ⟨_, rfl⟩
  rw [← hc] at h34
  obtain ⟨d, hd⟩ : ∃ c, c = decide (Exs1 = Exs2) := ⟨_, rfl⟩
  rw [← hd] at h320
  obtain ⟨r, hr⟩ : ∃ r, r = decide ((⟨K1, T1, M1, W1, Ex1, Exs1, L1, R1⟩ : Fd) = ⟨K2, T2, M2, W2, Ex2, Exs2, L2, R2⟩) := ⟨_, rfl⟩
  rw [← hr]
  have hr2 : r = (decide (K1 = K2) && (decide (T1 = T2) && (decide (M1 = M2) && (decide (W1 = W2) && (c && (d && (decide (L1 = L2) && decide (R1 = R2)))))))) := by rw [hr, hc, hd]; simp
  clear hr hc hd
  cbv
  repeat' first | with_reducible rfl | with_reducible refine And.intro ?_ ?_ | ((with_reducible intro hcc); first | (cases hcc; done) | skip) | ((with_reducible show goC _ _ _ _ _ _ _ _); cbv) | ((with_reducible show goOps _ _ _ _ _); cbv) | ((with_reducible show okWr _ _ = _); rfl) | ((with_reducible refine callK_eq hA hP ?_ ?_ ?_ (Wks.refl _) (fun _ _ => h34)); exact rfl; exact rfl; cbv) | ((with_reducible refine callK_eq hA hP ?_ ?_ ?_ (Wks.refl _) (fun _ _ => h320)); exact rfl; exact rfl; cbv) | ((with_reducible refine hA.fin_pl _ _ _ ?_); cbv) | (simp only [hA.natLit, hA.natOf, hA.natCast]; cbv)
  all_goals try simp only [hA.add, hA.sub, hA.mul, hA.neg, hA.div, hA.mod, hA.mn, hA.mx, hA.eq, hA.lt, hA.le, hA.nat, hA.R, hA.lep, hA.ltp, hA.seq, inR, n_cast, Int.ofNat_eq_natCast, Option.getD_some, Option.getD_none] at *
  all_goals first | rfl | (clear h34 h320; grind; done) | (clear h34 h320; simp at *; grind; done) | (trace_state; fail))
set_option maxRecDepth 100000 in
theorem ok78 (l l' : List (Fd)) (es fs : List (List E)) (he : es = l.map fdr) (hf : fs = l'.map fdr) : Plain Try.prog 78 [.e (.sl es), .e (.sl fs)] (.bool (decide (l = l'))) := okOf mixed p78 fun A P hA hP => (by
  obtain ⟨r, hr⟩ : ∃ r : Bool, r = decide (l = l') := ⟨_, rfl⟩
  rw [← hr]
  have hl1 : es.length = l.length := by rw [he]; simp
  have hl2 : fs.length = l'.length := by rw [hf]; simp
  cbv
  repeat' first | with_reducible rfl | with_reducible refine And.intro ?_ ?_ | ((with_reducible intro hcc); first | (cases hcc; done) | skip) | ((with_reducible show goC _ _ _ _ _ _ _ _); cbv) | ((with_reducible show goOps _ _ _ _ _); cbv) | ((with_reducible show okWr _ _ = _); rfl) | ((with_reducible refine hA.fin_pl _ _ _ ?_); cbv) | ((with_reducible refine hA.len _ _ _ _ _ fun z hz hb => ?_); cbv) | ((with_reducible refine hA.off _ _ _ _ fun b hb => ?_); cbv) | ((with_reducible refine hA.sapp _ _ _ ⟨?_, fun sl hsl => ?_⟩); rotate_left; cbv) | (simp only [hA.natLit, hA.natOf, hA.natCast]; cbv)
  all_goals try simp only [hA.add, hA.sub, hA.mul, hA.neg, hA.div, hA.mod, hA.mn, hA.mx, hA.eq, hA.lt, hA.le, hA.nat, hA.R, hA.lep, hA.ltp, hA.seq, inR, n_cast, Int.ofNat_eq_natCast, Option.getD_some, Option.getD_none] at *
  · have : l ≠ l' := fun e => by subst e; clear hr; grind
    rw [hr]; simp [this]
  · have hzz : es.length = fs.length := by clear hr; grind
    refine hA.loopI (fun n s => ∃ i : Int, 0 ≤ i ∧ n + i = l.length ∧ (∀ j : Nat, j < i → l[j]? = l'[j]?) ∧ s = ⟨[(5, .int i), (4, .bool false), (0, .e (.sl es)), (1, .e (.sl fs))], []⟩) l.length _ (Weak.keep (env' := [(5, .int 0), (4, .bool false), (0, .e (.sl es)), (1, .e (.sl fs))]) ⟨rfl, rfl, rfl, rfl, trivial⟩) ⟨0, by omega, by omega, fun j hj => by omega, rfl⟩ ?_
    rintro n s K ⟨i, h0, h1, h2, rfl⟩ hK
    by_cases hin : (0 : Int) ≤ i ∧ i < es.length
    · have hin2 : (0 : Int) ≤ i ∧ i < fs.length := by omega
      obtain ⟨⟨K1, T1, M1, W1, Ex1, Exs1, L1, R1⟩, e1, q1⟩ := row_at he hin
      obtain ⟨⟨K2, T2, M2, W2, Ex2, Exs2, L2, R2⟩, e2, q2⟩ := row_at hf hin2
      obtain ⟨x1, hx1⟩ : ∃ x, x = Ex1.map orow := ⟨_, rfl⟩
      obtain ⟨y1, hy1⟩ : ∃ x, x = Exs1.map orr := ⟨_, rfl⟩
      have e1 : es.getD i.toNat [] = [E.int K1, E.int T1, E.int M1, E.int W1, E.sl x1, E.sl y1, E.int L1, E.int R1] := e1.trans (by rw [hx1, hy1])
      obtain ⟨x2, hx2⟩ : ∃ x, x = Ex2.map orow := ⟨_, rfl⟩
      obtain ⟨y2, hy2⟩ : ∃ x, x = Exs2.map orr := ⟨_, rfl⟩
      have e2 : fs.getD i.toNat [] = [E.int K2, E.int T2, E.int M2, E.int W2, E.sl x2, E.sl y2, E.int L2, E.int R2] := e2.trans (by rw [hx2, hy2])
      have hc := ok138 K1 T1 M1 W1 Ex1 Exs1 L1 R1 x1 y1 hx1 hy1 K2 T2 M2 W2 Ex2 Exs2 L2 R2 x2 y2 hx2 hy2
      obtain ⟨c, hcc⟩ : ∃ c : Bool, c = decide ((⟨K1, T1, M1, W1, Ex1, Exs1, L1, R1⟩ : Fd) = ⟨K2, T2, M2, W2, Ex2, Exs2, L2, R2⟩) := ⟨_, rfl⟩
      rw [← hcc] at hc
      have c1 : c = false → r = false := fun e => by
        rw [hr, decide_eq_false_iff_not]
        intro e'
        subst e'
        rw [q1] at q2
        cases q2
        rw [e] at hcc
        simp at hcc
      have c2 : c = true → l[i.toNat]? = l'[i.toNat]? := fun e => by
        rw [e] at hcc
        rw [q1, q2, of_decide_eq_true hcc.symm]
      clear hcc hr
      cbv
      repeat' first | with_reducible rfl | with_reducible refine And.intro ?_ ?_ | ((with_reducible intro hcc); first | (cases hcc; done) | skip) | ((with_reducible show goC _ _ _ _ _ _ _ _); cbv) | ((with_reducible show goOps _ _ _ _ _); cbv) | ((with_reducible show okWr _ _ = _); rfl) | ((with_reducible refine callK_eq hA hP ?_ ?_ ?_ (Wks.refl _) (fun _ _ => hc)); exact rfl; exact rfl; cbv) | ((with_reducible refine hA.row es _ _ ⟨hin, fun row hrow => ?_⟩); rw [e1] at hrow; subst hrow; cbv) | ((with_reducible refine hA.row fs _ _ ⟨hin2, fun row hrow => ?_⟩); rw [e2] at hrow; subst hrow; cbv) | ((with_reducible refine hA.fin_pl _ _ _ ?_); cbv) | ((with_reducible refine hA.len _ _ _ _ _ fun z hz hb => ?_); cbv) | ((with_reducible refine hA.off _ _ _ _ fun b hb => ?_); cbv) | ((with_reducible refine hA.sapp _ _ _ ⟨?_, fun sl hsl => ?_⟩); rotate_left; cbv) | (simp only [hA.natLit, hA.natOf, hA.natCast]; cbv)
      all_goals try simp only [hA.add, hA.sub, hA.mul, hA.neg, hA.div, hA.mod, hA.mn, hA.mx, hA.eq, hA.lt, hA.le, hA.nat, hA.R, hA.lep, hA.ltp, hA.seq, inR, n_cast, Int.ofNat_eq_natCast, Option.getD_some, Option.getD_none] at *
      all_goals first
        | omega
        | (refine hK _ (n - 1) _ (by omega) (Weak.gc (env' := [(5, .int (i + 1)), (4, .bool false), (0, .e (.sl es)), (1, .e (.sl fs))]) ⟨rfl, rfl, rfl, rfl, trivial⟩ rfl) ⟨i + 1, by omega, by omega, fun j hj => ?_, rfl⟩
           by_cases hji : (j : Int) < i
           · exact h2 j hji
           · have : j = i.toNat := by omega
             rw [this]
             exact c2 (by clear hK h2; grind))
        | (clear hK h2 he hf e1 e2; grind; done)
        | (trace_state; fail)
    · have hll : l = l' := by
        refine List.ext_getElem? fun j => ?_
        by_cases hj : (j : Int) < i
        · exact h2 j hj
        · rw [List.getElem?_eq_none (by omega), List.getElem?_eq_none (by omega)]
      have hr2 : r = true := by rw [hr, hll]; simp
      clear hr
      cbv
      repeat' first | with_reducible rfl | with_reducible refine And.intro ?_ ?_ | ((with_reducible intro hcc); first | (cases hcc; done) | skip) | ((with_reducible show goC _ _ _ _ _ _ _ _); cbv) | ((with_reducible show goOps _ _ _ _ _); cbv) | ((with_reducible show okWr _ _ = _); rfl) | (exfalso; simp only [hA.lt, hA.sub, decide_eq_true_eq, decide_eq_false_iff_not, n_cast] at *; omega) | ((with_reducible refine hA.fin_pl _ _ _ ?_); cbv) | ((with_reducible refine hA.len _ _ _ _ _ fun z hz hb => ?_); cbv) | ((with_reducible refine hA.off _ _ _ _ fun b hb => ?_); cbv) | ((with_reducible refine hA.sapp _ _ _ ⟨?_, fun sl hsl => ?_⟩); rotate_left; cbv) | (simp only [hA.natLit, hA.natOf, hA.natCast]; cbv)
      all_goals try simp only [hA.add, hA.sub, hA.mul, hA.neg, hA.div, hA.mod, hA.mn, hA.mx, hA.eq, hA.lt, hA.le, hA.nat, hA.R, hA.lep, hA.ltp, hA.seq, inR, n_cast, Int.ofNat_eq_natCast, Option.getD_some, Option.getD_none] at *
      all_goals first
        | (rw [hr2])
        | omega
        | (clear hK h2 hll he hf; grind; done)
        | (trace_state; fail))
theorem ok33 (ns ns' : List Fd) (rt rt' : Int) (x x' : List (List E)) (hx : x = ns.map fdr) (hx' : x' = ns'.map fdr) : Plain Try.prog 33 [.agg [.e (.sl x), .int rt], .agg [.e (.sl x'), .int rt']] (.bool (decide (ns = ns') && decide (rt = rt'))) := okOf mixed p33 fun A P hA hP => (by
  have h240 := ok78 ns ns' x x' hx hx'
  obtain ⟨c, hc⟩ : ∃ c, c = decide (ns = ns') := ⟨_, rfl⟩
  rw [← hc] at h240 ⊢
  obtain ⟨d, hd⟩ : ∃ d, d = (c && decide (rt = rt')) := ⟨_, rfl⟩
  rw [← hd]
  cbv
  repeat' first | with_reducible rfl | with_reducible refine And.intro ?_ ?_ | ((with_reducible intro hcc); first | (cases hcc; done) | skip) | ((with_reducible show goC _ _ _ _ _ _ _ _); cbv) | ((with_reducible show goOps _ _ _ _ _); cbv) | ((with_reducible show okWr _ _ = _); rfl) | ((with_reducible refine callK_eq hA hP ?_ ?_ ?_ (Wks.refl _) (fun _ _ => h240)); exact rfl; exact rfl; cbv) | ((with_reducible refine hA.fin_pl _ _ _ ?_); cbv) | (simp only [hA.natLit, hA.natOf, hA.natCast]; cbv)
  all_goals try simp only [hA.add, hA.sub, hA.mul, hA.neg, hA.div, hA.mod, hA.mn, hA.mx, hA.eq, hA.lt, hA.le, hA.nat, hA.R, hA.lep, hA.ltp, hA.seq, inR, n_cast, Int.ofNat_eq_natCast, Option.getD_some, Option.getD_none] at *
  all_goals first | rfl | (clear h240 hc; grind; done) | (clear h240 hc; simp at *; grind; done) | (trace_state; fail))
end Go.Proofs.Ytfplalbognalkaa.Ab
/- The law of FlatOk. -/
namespace Go.Proofs.Ytfplalbognalkaa.Ab
open Go
theorem flat_in {ns : List Fd} (h : cFS ns ≤ 1048576) : ns.length ≤ 1048576 ∧ ∀ d ∈ ns, d.Ex.length ≤ 1048576 ∧ d.Exs.length ≤ 1048576 ∧ ∀ e ∈ d.Exs, e.length ≤ 1048576 := by
  have h0 := sumC_nonneg cFd_nonneg ns
  refine ⟨by unfold cFS at h; omega, fun d hd => ?_⟩
  have h1 := sumC_mem cFd_nonneg hd
  have h2 : cFd d = cO d.Ex + cOS d.Exs := rfl
  have h3 := cO_nonneg d.Ex
  have h4 := cOS_nonneg d.Exs
  have h5 : cO d.Ex = d.Ex.length := rfl
  have h6 : cOS d.Exs = d.Exs.length + sumC cO d.Exs := rfl
  have h7 := sumC_nonneg cO_nonneg d.Exs
  unfold cFS at h
  refine ⟨by omega, by omega, fun e he => ?_⟩
  have h8 := sumC_mem cO_nonneg he
  have h9 : cO e = e.length := rfl
  omega
theorem sz_in' {ts : List Tb} (h : cTS ts ≤ 1048576) : ts.length ≤ 1048576 ∧ ∀ t ∈ ts, t.2.2.length ≤ 1048576 ∧ ∀ r ∈ t.2.2, r.length ≤ 1048576 := by
  have h0 := sumC_nonneg cT_nonneg ts
  refine ⟨by unfold cTS at h; omega, fun t ht => ?_⟩
  have h1 := sz_row ht
  have h2 := sumC_nonneg cV_nonneg t.2.2
  unfold cT cSS at h1
  refine ⟨by omega, fun r hr => ?_⟩
  have h3 : (r.length : Int) ≤ _ := sumC_mem cV_nonneg hr
  omega
theorem runF_len {nt : Int} {cols : Int → Int} : ∀ {l : List Fd} {ws : List Int}, (runF nt cols l ws).2 = true → (runF nt cols l ws).1.length = ws.length + l.length
  | [], ws, _ => by simp [runF]
  | d :: r, ws, h => by
    unfold runF at h ⊢
    cases hs : stS nt cols ws d with
    | none => rw [hs] at h; cases h
    | some w =>
      rw [hs] at h
      have := runF_len (l := r) (ws := ws ++ [w]) h
      simp only
      rw [this]; simp; omega
set_option maxRecDepth 100000 in
set_option maxHeartbeats 4000000 in
theorem ok6 (ns : List Fd) (rt : Int) (x : List (List E)) (hx : x = ns.map fdr) (ts : List Tb) (xt : List (List E)) (hxt : xt = ts.map tbr) :
    Plain Try.prog 6 [.agg [.e (.sl x), .int rt], .agg [.e (.sl xt)]] (.bool true) := okOf mixed p6 fun A P hA hP => (by
  have h1 := ok27 ns rt x hx 1048576 (by omega)
  have n0 : 0 ≤ cFS ns := by have := sumC_nonneg cFd_nonneg ns; unfold cFS; omega
  by_cases c1 : (1048576 : Int) - cFS ns < 0
  · rw [show cut 1048576 (cFS ns) = -1 by unfold cut; rw [if_pos c1]] at h1
    cbv
    repeat' first | with_reducible rfl | with_reducible refine And.intro ?_ ?_ | ((with_reducible intro hcc); first | (cases hcc; done) | skip) | ((with_reducible show goC _ _ _ _ _ _ _ _); cbv) | ((with_reducible show goOps _ _ _ _ _); cbv) | ((with_reducible show okWr _ _ = _); rfl) | ((with_reducible refine callK_eq hA hP ?_ ?_ ?_ (Wks.refl _) (fun _ _ => h1)); exact rfl; exact rfl; cbv) | ((with_reducible refine hA.fin_pl _ _ _ ?_); cbv) | ((with_reducible refine hA.st _ _ _ _ _ ⟨?_, fun ds hds => ?_⟩); rotate_left; cbv) | ((with_reducible refine hA.gb0 true _ ?_); cbv) | ((with_reducible refine hA.gb0 false _ ?_); cbv) | ((with_reducible refine hA.gb _ _ fun vb hvb => ?_); cbv) | (simp only [hA.natLit, hA.natOf, hA.natCast]; cbv)
    all_goals try simp only [hA.add, hA.sub, hA.mul, hA.neg, hA.div, hA.mod, hA.mn, hA.mx, hA.eq, hA.lt, hA.le, hA.nat, hA.R, hA.lep, hA.ltp, hA.seq, inR, n_cast, Int.ofNat_eq_natCast, Option.getD_some, Option.getD_none] at *
    all_goals grind
  · rw [show cut 1048576 (cFS ns) = 1048576 - cFS ns by unfold cut; rw [if_neg c1]] at h1
    obtain ⟨a, ha⟩ : ∃ a : Int, a = 1048576 - cFS ns := ⟨_, rfl⟩
    rw [← ha] at h1
    have e1 : A.lt a 0 = false := by rw [hA.lt]; exact decide_eq_false (by omega)
    have h2 := ok28 ts xt hxt a (by omega)
    by_cases c2 : a - cTS ts < 0
    · rw [show cut a (cTS ts) = -1 by unfold cut; rw [if_pos c2]] at h2
      cbv
      repeat' first | with_reducible rfl | (simp only [e1]; cbv) | with_reducible refine And.intro ?_ ?_ | ((with_reducible intro hcc); first | (cases hcc; done) | skip) | ((with_reducible show goC _ _ _ _ _ _ _ _); cbv) | ((with_reducible show goOps _ _ _ _ _); cbv) | ((with_reducible show okWr _ _ = _); rfl) | ((with_reducible refine callK_eq hA hP ?_ ?_ ?_ (Wks.refl _) (fun _ _ => h1)); exact rfl; exact rfl; cbv) | ((with_reducible refine callK_eq hA hP ?_ ?_ ?_ (Wks.refl _) (fun _ _ => h2)); exact rfl; exact rfl; cbv) | ((with_reducible refine hA.fin_pl _ _ _ ?_); cbv) | ((with_reducible refine hA.st _ _ _ _ _ ⟨?_, fun ds hds => ?_⟩); rotate_left; cbv) | ((with_reducible refine hA.gb0 true _ ?_); cbv) | ((with_reducible refine hA.gb0 false _ ?_); cbv) | ((with_reducible refine hA.gb _ _ fun vb hvb => ?_); cbv) | (simp only [hA.natLit, hA.natOf, hA.natCast]; cbv)
      all_goals try simp only [hA.add, hA.sub, hA.mul, hA.neg, hA.div, hA.mod, hA.mn, hA.mx, hA.eq, hA.lt, hA.le, hA.nat, hA.R, hA.lep, hA.ltp, hA.seq, inR, n_cast, Int.ofNat_eq_natCast, Option.getD_some, Option.getD_none] at *
      all_goals grind
    · rw [show cut a (cTS ts) = a - cTS ts by unfold cut; rw [if_neg c2]] at h2
      obtain ⟨c, hc⟩ : ∃ c : Int, c = a - cTS ts := ⟨_, rfl⟩
      rw [← hc] at h2
      have e2 : A.lt c 0 = false := by rw [hA.lt]; exact decide_eq_false (by omega)
      have hsz : cTS ts ≤ 1048576 := by omega
      obtain ⟨s1, s2⟩ := sz_in' hsz
      obtain ⟨s3, s4⟩ := flat_in (ns := ns) (by omega)
      have hxl : x.length ≤ 1048576 := by rw [hx, List.length_map]; exact s3
      have h212 := ok30 ns rt x hx s3 s4
      have h37 := ok31 ts xt hxt s1 s2
      obtain ⟨⟨ws0, b0⟩, hr0⟩ : ∃ p, p = runF ts.length (colsOf ts) ns [] := ⟨_, rfl⟩
      have hwl : b0 = true → ws0.length = ns.length := fun h => by
        have h1 : (runF ts.length (colsOf ts) ns []).2 = true := by rw [← hr0]; exact h
        have := runF_len h1
        rw [← hr0] at this
        simpa using this
      obtain ⟨b, hb⟩ : ∃ b, b = ((!decide ((x.length : Int) < 1) && (!decide (8000 < (x.length : Int)) && (!decide (rt < 0) && (!decide ((x.length : Int) ≤ rt) && dbOk ts)))) && b0) := ⟨_, rfl⟩
      obtain ⟨v, hv⟩ : ∃ v : Int, v = if b then ws0.getD rt.toNat 0 else 0 := ⟨_, rfl⟩
      have h211 := ok29 ns rt x hx ts xt hxt hxl s4 hsz ws0 b0 hr0.symm b hb v hv hwl
      have h213 := ok32 ns rt x hx ts xt hxt hxl s4 hsz ws0 b0 hr0.symm b hb v hv hwl
      have h214 := ok33 ns ns rt rt x x hx hx
      rw [decide_eq_true rfl, decide_eq_true rfl] at h214
      have h39 := ok34 ts ts xt xt hxt hxt
      rw [decide_eq_true rfl] at h39
      have e3 : A.eq v v = true := by rw [hA.eq]; exact decide_eq_true rfl
      clear hb hv hr0 hwl s2 s4
      cases b
      all_goals
        cbv
        repeat' first | with_reducible rfl | (simp only [e3]; cbv) | (simp only [e2]; cbv) | (simp only [e1]; cbv) | with_reducible refine And.intro ?_ ?_ | ((with_reducible intro hcc); first | (cases hcc; done) | skip) | ((with_reducible show goC _ _ _ _ _ _ _ _); cbv) | ((with_reducible show goOps _ _ _ _ _); cbv) | ((with_reducible show okWr _ _ = _); rfl) | ((with_reducible refine callK_eq hA hP ?_ ?_ ?_ (Wks.refl _) (fun _ _ => h1)); exact rfl; exact rfl; cbv) | ((with_reducible refine callK_eq hA hP ?_ ?_ ?_ (Wks.refl _) (fun _ _ => h2)); exact rfl; exact rfl; cbv) | ((with_reducible refine callK_eq hA hP ?_ ?_ ?_ (Wks.refl _) (fun _ _ => h212)); exact rfl; exact rfl; cbv) | ((with_reducible refine callK_eq hA hP ?_ ?_ ?_ (Wks.refl _) (fun _ _ => h37)); exact rfl; exact rfl; cbv) | ((with_reducible refine callK_eq hA hP ?_ ?_ ?_ (Wks.refl _) (fun _ _ => h211)); exact rfl; exact rfl; cbv) | ((with_reducible refine callK_eq hA hP ?_ ?_ ?_ (Wks.refl _) (fun _ _ => h213)); exact rfl; exact rfl; cbv) | ((with_reducible refine callK_eq hA hP ?_ ?_ ?_ (Wks.refl _) (fun _ _ => h214)); exact rfl; exact rfl; cbv) | ((with_reducible refine callK_eq hA hP ?_ ?_ ?_ (Wks.refl _) (fun _ _ => h39)); exact rfl; exact rfl; cbv) | ((with_reducible refine hA.fin_pl _ _ _ ?_); cbv) | ((with_reducible refine hA.st _ _ _ _ _ ⟨?_, fun ds hds => ?_⟩); rotate_left; cbv) | ((with_reducible refine hA.gb0 true _ ?_); cbv) | ((with_reducible refine hA.gb0 false _ ?_); cbv) | ((with_reducible refine hA.gb _ _ fun vb hvb => ?_); cbv) | (simp only [hA.natLit, hA.natOf, hA.natCast]; cbv)
        all_goals try simp only [hA.add, hA.sub, hA.mul, hA.neg, hA.div, hA.mod, hA.mn, hA.mx, hA.eq, hA.lt, hA.le, hA.nat, hA.R, hA.lep, hA.ltp, hA.seq, inR, n_cast, Int.ofNat_eq_natCast, Option.getD_some, Option.getD_none] at *
        all_goals first | rfl | trivial | (clear h1 h2 h212 h37 h211 h213 h214 h39 hx hxt; grind) | (trace_state; fail))
end Go.Proofs.Ytfplalbognalkaa.Ab
/- Rows of values: compared. -/
namespace Go.Proofs.Ytfplalbognalkaa.Ab
open Go
def vcmp (p q : Bool × Int) : Int := if p.1 = true ∧ q.1 = true then 0 else if p.1 = true then -1 else if q.1 = true then 1 else if p.2 < q.2 then -1 else if q.2 < p.2 then 1 else 0
def rcmp : List (Bool × Int) → List (Bool × Int) → Int
  | [], [] => 0
  | [], _ :: _ => -1
  | _ :: _, [] => 1
  | p :: l, q :: m => if vcmp p q ≠ 0 then vcmp p q else rcmp l m
theorem ok55 (p q : Bool × Int) : Plain Try.prog 55 [dVal p.1 p.2, dVal q.1 q.2] (.int (vcmp p q)) := okOf mixed p55 fun A P hA hP => (by
  obtain ⟨b, v⟩ := p
  obtain ⟨b', v'⟩ := q
  obtain ⟨r, hr⟩ : ∃ r, r = vcmp (b, v) (b', v') := ⟨_, rfl⟩
  rw [← hr]
  cbv
  repeat' first | with_reducible rfl | with_reducible refine And.intro ?_ ?_ | ((with_reducible intro hcc); first | (cases hcc; done) | skip) | ((with_reducible show goC _ _ _ _ _ _ _ _); cbv) | ((with_reducible show goOps _ _ _ _ _); cbv) | ((with_reducible show okWr _ _ = _); rfl) | ((with_reducible refine hA.fin_pl _ _ _ ?_); cbv) | ((with_reducible refine hA.gb0 true _ ?_); cbv) | ((with_reducible refine hA.gb0 false _ ?_); cbv) | ((with_reducible refine hA.gb _ _ fun vb hvb => ?_); cbv) | (simp only [hA.natLit, hA.natOf, hA.natCast]; cbv)
  all_goals try simp only [hA.add, hA.sub, hA.mul, hA.neg, hA.div, hA.mod, hA.mn, hA.mx, hA.eq, hA.lt, hA.le, hA.nat, hA.R, hA.lep, hA.ltp, hA.seq, inR, n_cast, Int.ofNat_eq_natCast, Option.getD_some, Option.getD_none] at *
  all_goals subst hr
  all_goals try simp only [vcmp]
  all_goals grind)
set_option maxRecDepth 100000 in
theorem ok14 (l : List (Bool × Int)) : ∀ (m : List (Bool × Int)) (es fs : List (List E)), es = l.map vr → fs = m.map vr → Plain Try.prog 14 [.e (.sl es), .e (.sl fs)] (.int (rcmp l m)) := by
  induction l with
  | nil =>
    intro m es fs he hf
    refine okOf mixed p14 fun A P hA hP => ?_
    obtain ⟨r, hr⟩ : ∃ r, r = rcmp [] m := ⟨_, rfl⟩
    rw [← hr]
    have h1 : es.length = 0 := by rw [he]; rfl
    have h2 : fs.length = m.length := by rw [hf]; simp
    have h3 : m.length = 0 → r = 0 := by cases m <;> simp [hr, rcmp]
    have h4 : m.length ≠ 0 → r = -1 := by cases m <;> simp [hr, rcmp]
    clear hr
    cbv
    repeat' first | with_reducible rfl | with_reducible refine And.intro ?_ ?_ | ((with_reducible intro hcc); first | (cases hcc; done) | skip) | ((with_reducible show goC _ _ _ _ _ _ _ _); cbv) | ((with_reducible show goOps _ _ _ _ _); cbv) | ((with_reducible show okWr _ _ = _); rfl) | ((with_reducible refine hA.fin_pl _ _ _ ?_); cbv) | ((with_reducible refine hA.len _ _ _ _ _ fun z hz hb => ?_); cbv) | ((with_reducible refine hA.off _ _ _ _ fun b hb => ?_); cbv) | ((with_reducible refine hA.slc _ _ _ _ _ ⟨?_, fun zs hzs => ?_⟩); rotate_left; cbv) | ((with_reducible refine hA.vsl _ _ _ _ ⟨?_, fun m hm => ?_⟩); rotate_left; cbv) | ((with_reducible refine hA.gb0 true _ ?_); cbv) | ((with_reducible refine hA.gb0 false _ ?_); cbv) | ((with_reducible refine hA.gb _ _ fun vb hvb => ?_); cbv) | (simp only [hA.natLit, hA.natOf, hA.natCast]; cbv)
    all_goals try simp only [hA.add, hA.sub, hA.mul, hA.neg, hA.div, hA.mod, hA.mn, hA.mx, hA.eq, hA.lt, hA.le, hA.nat, hA.R, hA.lep, hA.ltp, hA.seq, inR, n_cast, Int.ofNat_eq_natCast, Option.getD_some, Option.getD_none] at *
    all_goals grind
  | cons p l ih =>
    intro m es fs he hf
    refine okOf mixed p14 fun A P hA hP => ?_
    have h1 : es.length = l.length + 1 := by rw [he]; simp
    cases m with
    | nil =>
      have h2 : fs.length = 0 := by rw [hf]; rfl
      have h3 : rcmp (p :: l) [] = 1 := rfl
      rw [h3]
      cbv
      repeat' first | with_reducible rfl | with_reducible refine And.intro ?_ ?_ | ((with_reducible intro hcc); first | (cases hcc; done) | skip) | ((with_reducible show goC _ _ _ _ _ _ _ _); cbv) | ((with_reducible show goOps _ _ _ _ _); cbv) | ((with_reducible show okWr _ _ = _); rfl) | ((with_reducible refine hA.fin_pl _ _ _ ?_); cbv) | ((with_reducible refine hA.len _ _ _ _ _ fun z hz hb => ?_); cbv) | ((with_reducible refine hA.off _ _ _ _ fun b hb => ?_); cbv) | ((with_reducible refine hA.slc _ _ _ _ _ ⟨?_, fun zs hzs => ?_⟩); rotate_left; cbv) | ((with_reducible refine hA.vsl _ _ _ _ ⟨?_, fun m hm => ?_⟩); rotate_left; cbv) | ((with_reducible refine hA.gb0 true _ ?_); cbv) | ((with_reducible refine hA.gb0 false _ ?_); cbv) | ((with_reducible refine hA.gb _ _ fun vb hvb => ?_); cbv) | (simp only [hA.natLit, hA.natOf, hA.natCast]; cbv)
      all_goals try simp only [hA.add, hA.sub, hA.mul, hA.neg, hA.div, hA.mod, hA.mn, hA.mx, hA.eq, hA.lt, hA.le, hA.nat, hA.R, hA.lep, hA.ltp, hA.seq, inR, n_cast, Int.ofNat_eq_natCast, Option.getD_some, Option.getD_none] at *
      all_goals grind
    | cons q m =>
      have h2 : fs.length = m.length + 1 := by rw [hf]; simp
      obtain ⟨r, hr⟩ : ∃ r, r = rcmp (p :: l) (q :: m) := ⟨_, rfl⟩
      rw [← hr]
      obtain ⟨c, hc⟩ : ∃ c, c = vcmp p q := ⟨_, rfl⟩
      have h61 := ok55 p q
      rw [← hc] at h61
      obtain ⟨r', hr'⟩ : ∃ r', r' = rcmp l m := ⟨_, rfl⟩
      have ih' := fun es fs h1 h2 => ih m es fs h1 h2
      rw [← hr'] at ih'
      have hrr : r = if c ≠ 0 then c else r' := by rw [hr, hc, hr']; rfl
      obtain ⟨b1, v1⟩ := p
      obtain ⟨b2, v2⟩ := q
      clear hr hc hr' ih
      cbv
      repeat' first | with_reducible rfl | with_reducible refine And.intro ?_ ?_ | ((with_reducible intro hcc); first | (cases hcc; done) | skip) | ((with_reducible show goC _ _ _ _ _ _ _ _); cbv) | ((with_reducible show goOps _ _ _ _ _); cbv) | ((with_reducible show okWr _ _ = _); rfl) | ((with_reducible refine callK_eq hA hP ?_ ?_ ?_ (Wks.refl _) (fun _ _ => h61)); exact rfl; exact rfl; cbv) | ((with_reducible refine callK_eq hA hP ?_ ?_ ?_ (Wks.refl _) (fun _ _ => ih' zs ws ?_ ?_)); exact rfl; exact rfl; cbv) | ((with_reducible refine hA.row es _ _ ⟨?_, fun row hrow => ?_⟩); rotate_left; (have e1 : row = vr (b1, v1) := (by rw [hrow, he]; rfl)); subst e1; cbv) | ((with_reducible refine hA.row fs _ _ ⟨?_, fun row hrow => ?_⟩); rotate_left; (have e1 : row = vr (b2, v2) := (by rw [hrow, hf]; rfl)); subst e1; cbv) | ((with_reducible refine hA.slc es _ _ _ _ ⟨?_, fun zs hzs => ?_⟩); rotate_left; cbv) | ((with_reducible refine hA.slc fs _ _ _ _ ⟨?_, fun ws hws => ?_⟩); rotate_left; cbv) | ((with_reducible refine hA.fin_pl _ _ _ ?_); cbv) | ((with_reducible refine hA.len _ _ _ _ _ fun z hz hb => ?_); cbv) | ((with_reducible refine hA.off _ _ _ _ fun b hb => ?_); cbv) | ((with_reducible refine hA.slc _ _ _ _ _ ⟨?_, fun zs hzs => ?_⟩); rotate_left; cbv) | ((with_reducible refine hA.vsl _ _ _ _ ⟨?_, fun m hm => ?_⟩); rotate_left; cbv) | ((with_reducible refine hA.gb0 true _ ?_); cbv) | ((with_reducible refine hA.gb0 false _ ?_); cbv) | ((with_reducible refine hA.gb _ _ fun vb hvb => ?_); cbv) | (simp only [hA.natLit, hA.natOf, hA.natCast]; cbv)
      all_goals try simp only [hA.add, hA.sub, hA.mul, hA.neg, hA.div, hA.mod, hA.mn, hA.mx, hA.eq, hA.lt, hA.le, hA.nat, hA.R, hA.lep, hA.ltp, hA.seq, inR, n_cast, Int.ofNat_eq_natCast, Option.getD_some, Option.getD_none] at *
      all_goals first
        | (clear ih'; grind; done)
        | (rw [hzs, List.take_of_length_le (by simp [NatCast.natCast]), he]; rfl)
        | (rw [hws, List.take_of_length_le (by simp [NatCast.natCast]), hf]; rfl)
        | (rw [allLen_iff, he]; intro e h; obtain ⟨p, _, rfl⟩ := List.mem_map.1 h; rfl)
        | (rw [allLen_iff, hf]; intro e h; obtain ⟨p, _, rfl⟩ := List.mem_map.1 h; rfl)
end Go.Proofs.Ytfplalbognalkaa.Ab
/- Rows of values: compared by the program. -/
namespace Go.Proofs.Ytfplalbognalkaa.Ab
open Go
theorem rcmp_drop {l m : List (Bool × Int)} {i : Nat} {p q : Bool × Int} (h1 : l[i]? = some p) (h2 : m[i]? = some q) : rcmp (l.drop i) (m.drop i) = if vcmp p q ≠ 0 then vcmp p q else rcmp (l.drop (i + 1)) (m.drop (i + 1)) := by
  obtain ⟨a, b⟩ := List.getElem?_eq_some_iff.1 h1
  obtain ⟨c, d⟩ := List.getElem?_eq_some_iff.1 h2
  rw [List.drop_eq_getElem_cons a, List.drop_eq_getElem_cons c, b, d]
  rfl
theorem rcmp_end (l m : List (Bool × Int)) (h : l = [] ∨ m = []) : rcmp l m = if l.length < m.length then -1 else if m.length < l.length then 1 else 0 := by
  cases l <;> cases m <;> simp_all [rcmp]
set_option maxRecDepth 100000 in
theorem ok13 (l m : List (Bool × Int)) (es fs : List (List E)) (he : es = l.map vr) (hf : fs = m.map vr) : Plain Try.prog 13 [.e (.sl es), .e (.sl fs)] (.int (rcmp l m)) := okOf mixed p13 fun A P hA hP => (by
  obtain ⟨r, hr⟩ : ∃ r, r = rcmp l m := ⟨_, rfl⟩
  rw [← hr]
  have hl1 : es.length = l.length := by rw [he]; simp
  have hl2 : fs.length = m.length := by rw [hf]; simp
  cbv
  repeat' first | with_reducible rfl | with_reducible refine And.intro ?_ ?_ | ((with_reducible intro hcc); first | (cases hcc; done) | skip) | ((with_reducible show goC _ _ _ _ _ _ _ _); cbv) | ((with_reducible show goOps _ _ _ _ _); cbv) | ((with_reducible show okWr _ _ = _); rfl) | ((with_reducible refine hA.fin_pl _ _ _ ?_); cbv) | ((with_reducible refine hA.len _ _ _ _ _ fun z hz hb => ?_); cbv) | ((with_reducible refine hA.off _ _ _ _ fun b hb => ?_); cbv) | ((with_reducible refine hA.plus _ _ _ fun b hb => ?_); cbv) | ((with_reducible refine hA.st _ _ _ _ _ ⟨?_, fun ds hds => ?_⟩); rotate_left; cbv) | ((with_reducible refine hA.sapp _ _ _ ⟨?_, fun sl hsl => ?_⟩); rotate_left; cbv) | ((with_reducible refine hA.gb0 true _ ?_); cbv) | ((with_reducible refine hA.gb0 false _ ?_); cbv) | ((with_reducible refine hA.gb _ _ fun vb hvb => ?_); cbv) | (simp only [hA.natLit, hA.natOf, hA.natCast]; cbv)
  all_goals try simp only [hA.add, hA.sub, hA.mul, hA.neg, hA.div, hA.mod, hA.mn, hA.mx, hA.eq, hA.lt, hA.le, hA.nat, hA.R, hA.lep, hA.ltp, hA.seq, inR, n_cast, Int.ofNat_eq_natCast, Option.getD_some, Option.getD_none] at *
  refine hA.loopI (fun n s => ∃ i kk : Int, 0 ≤ i ∧ kk = min (es.length : Int) fs.length ∧ n + i = kk ∧ r = rcmp (l.drop i.toNat) (m.drop i.toNat) ∧ s = ⟨[(13, .int i), (12, .int kk), (4, .int 0), (0, .e (.sl es)), (1, .e (.sl fs))], []⟩) (min es.length fs.length) _
    (Weak.keep (env' := [(13, .int 0), (12, .int _), (4, .int 0), (0, .e (.sl es)), (1, .e (.sl fs))]) ⟨rfl, rfl, rfl, rfl, rfl, trivial⟩) ⟨0, _, by omega, ?_, ?_, by simpa using hr, rfl⟩ ?_
  · grind
  · grind
  · rintro n s K ⟨i, kk, h0, h1, h2, h3, rfl⟩ hK
    cbv
    repeat' first | with_reducible rfl | with_reducible refine And.intro ?_ ?_ | ((with_reducible intro hcc); first | (cases hcc; done) | skip) | ((with_reducible show goC _ _ _ _ _ _ _ _); cbv) | ((with_reducible show goOps _ _ _ _ _); cbv) | ((with_reducible show okWr _ _ = _); rfl) | ((with_reducible refine hA.row es _ _ ?_); have hin : (0 : Int) ≤ i ∧ i < es.length := (by simp only [hA.lt, decide_eq_true_eq, n_cast] at *; omega); obtain ⟨⟨b1, v1⟩, e1, q1⟩ := row_val he hin; refine ⟨hin, fun row hrow => ?_⟩; rw [e1] at hrow; subst hrow; cbv) | ((with_reducible refine hA.row fs _ _ ?_); have hin : (0 : Int) ≤ i ∧ i < fs.length := (by simp only [hA.lt, decide_eq_true_eq, n_cast] at *; omega); obtain ⟨⟨b2, v2⟩, e2, q2⟩ := row_val hf hin; refine ⟨hin, fun row hrow => ?_⟩; rw [e2] at hrow; subst hrow; cbv) | ((with_reducible refine hA.fin_pl _ _ _ ?_); cbv) | ((with_reducible refine hA.len _ _ _ _ _ fun z hz hb => ?_); cbv) | ((with_reducible refine hA.off _ _ _ _ fun b hb => ?_); cbv) | ((with_reducible refine hA.plus _ _ _ fun b hb => ?_); cbv) | ((with_reducible refine hA.st _ _ _ _ _ ⟨?_, fun ds hds => ?_⟩); rotate_left; cbv) | ((with_reducible refine hA.sapp _ _ _ ⟨?_, fun sl hsl => ?_⟩); rotate_left; cbv) | ((with_reducible refine hA.gb0 true _ ?_); cbv) | ((with_reducible refine hA.gb0 false _ ?_); cbv) | ((with_reducible refine hA.gb _ _ fun vb hvb => ?_); cbv) | (simp only [hA.natLit, hA.natOf, hA.natCast]; cbv)
    all_goals try simp only [hA.add, hA.sub, hA.mul, hA.neg, hA.div, hA.mod, hA.mn, hA.mx, hA.eq, hA.lt, hA.le, hA.nat, hA.R, hA.lep, hA.ltp, hA.seq, inR, n_cast, Int.ofNat_eq_natCast, Option.getD_some, Option.getD_none] at *
    all_goals first
      | omega
      | (clear hK; grind; done)
      | (have hd := rcmp_drop q1 q2
         simp only [vcmp] at hd
         clear hK
         grind; done)
      | (have hd := rcmp_drop q1 q2
         simp only [vcmp] at hd
         refine hK _ (n - 1) _ (by grind) (Weak.gc (env' := [(13, .int (i + 1)), (12, .int kk), (4, .int 0), (0, .e (.sl es)), (1, .e (.sl fs))]) ⟨rfl, rfl, rfl, rfl, rfl, trivial⟩ rfl) ⟨i + 1, kk, by omega, h1, by grind, ?_, rfl⟩
         have e5 : (i + 1).toNat = i.toNat + 1 := by omega
         rw [e5]
         clear hK
         grind; done)
      | (have hik : ¬ i < kk := (by grind)
         have hend := rcmp_end (l.drop i.toNat) (m.drop i.toNat) (by
           simp only [List.drop_eq_nil_iff]
           omega)
         simp only [List.length_drop] at hend
         clear hK
         grind; done))
end Go.Proofs.Ytfplalbognalkaa.Ab
/- The law of RowCmp. -/
namespace Go.Proofs.Ytfplalbognalkaa.Ab
open Go
end Go.Proofs.Ytfplalbognalkaa.Ab
/- Arguments of any plain type, in the abstract view. -/
namespace Go.Proofs.Ytfplalbognalkaa.Ab
open Go Go.ChangeShapes Go.WideShapes Go.ChangeAt Go.RowKit
/-- What the cells of a value of a type read as. -/
def WT (P : Program) : Nat → TypeId → List E → Prop
  | 0, _, _ => False
  | n + 1, t, es => match P.underlying t with
    | some .bool => ∃ b, es = [.bool b]
    | some (.int k) => ∃ m, es = [.v (.int k m)] ∧ k.min ≤ m ∧ m ≤ k.max
    | some .string => ∃ s, es = [.v (.string s)] ∧ s.size ≤ maxN
    | some (.struct fs) => es.length = P.cellsOf t ∧ ∀ (i : Nat) f, fs[i]? = some f → WT P n f.type ((es.drop f.offset).take (P.cellsOf f.type))
    | some (.slice e) => ∃ rows, es = [.sl rows] ∧ rows.length ≤ maxN ∧ ∀ r ∈ rows, WT P n e r ∧ r.length = P.cellsOf e
    | _ => False
def laidAt (P : Program) : Nat → List Field → Option Nat
  | acc, [] => some acc
  | acc, f :: r => if f.offset = acc then laidAt P (acc + P.cellsOf f.type) r else none
/-- The types that are served. -/
def okT (P : Program) : Nat → TypeId → Bool
  | 0, _ => false
  | n + 1, t => match P.underlying t with
    | some .bool | some (.int _) | some .string => P.cellsOf t == 1
    | some (.struct fs) => fs.toList.all (fun f => okT P n f.type) && laidAt P 0 fs.toList == some (P.cellsOf t)
    | some (.slice e) => P.cellsOf t == 1 && okT P n e && decide (0 < P.bytesOf e) && decide (0 < P.cellsOf e)
    | _ => false
def RelE (W : World) (cs : List Value) (es : List E) : Prop := es.length = cs.length ∧ ∀ (j : Nat) c e, cs[j]? = some c → es[j]? = some e → RvE W (pubAll W).pub c e
theorem laidAt_le {P : Program} : ∀ (fs : List Field) (acc tot : Nat), laidAt P acc fs = some tot → acc ≤ tot
  | [], acc, tot, h => by simp [laidAt] at h; omega
  | f :: r, acc, tot, h => by
    simp only [laidAt] at h
    split at h
    · have := laidAt_le r _ _ h; omega
    · cases h
/-- The fields' readings, put together. -/
theorem fields_E {P : Program} {W : World} {n : Nat} {cs : List Value} : ∀ (fs : List Field) (acc tot : Nat), laidAt P acc fs = some tot → tot = cs.length →
    (∀ (i : Nat) f, fs[i]? = some f → ∃ es, WT P n f.type es ∧ RelE W ((cs.drop f.offset).take (P.cellsOf f.type)) es) →
    ∃ es, RelE W (cs.drop acc) es ∧ ∀ (i : Nat) f, fs[i]? = some f → WT P n f.type ((es.drop (f.offset - acc)).take (P.cellsOf f.type)) ∧ acc ≤ f.offset
  | [], acc, tot, h, ht, _ => by
    simp [laidAt] at h
    refine ⟨[], ⟨by simp; omega, fun j c e _ he => by simp at he⟩, fun i f hf => by simp at hf⟩
  | f :: r, acc, tot, h, ht, hf => by
    simp only [laidAt] at h
    split at h
    case isFalse => cases h
    rename_i ho
    have hle := laidAt_le r _ _ h
    obtain ⟨es, w1, l1, r1⟩ := hf 0 f rfl
    obtain ⟨es', ⟨l2, r2⟩, w2⟩ := fields_E r _ tot h ht fun i g hg => hf (i + 1) g (by simpa using hg)
    have hl1 : es.length = P.cellsOf f.type := by rw [l1, ho]; simp; omega
    refine ⟨es ++ es', ⟨?_, fun j c e hc he => ?_⟩, fun i g hg => ?_⟩
    · rw [List.length_append, l2, hl1]; simp; omega
    · rw [List.getElem?_drop] at hc
      by_cases hj : j < es.length
      · rw [List.getElem?_append_left hj] at he
        refine r1 j c e ?_ he
        rw [List.getElem?_take, if_pos (by omega), List.getElem?_drop, ho]; exact hc
      · rw [List.getElem?_append_right (by omega)] at he
        refine r2 (j - es.length) c e ?_ he
        rw [List.getElem?_drop, ← hc]
        congr 1; omega
    · cases i with
      | zero =>
        simp at hg; subst hg
        rw [ho, Nat.sub_self, List.drop_zero, ← hl1, List.take_left]
        exact ⟨w1, Nat.le_refl _⟩
      | succ i =>
        obtain ⟨a, b⟩ := w2 i g (by simpa using hg)
        refine ⟨?_, by omega⟩
        have : g.offset - acc = es.length + (g.offset - (acc + P.cellsOf f.type)) := by omega
        rw [this, ← List.drop_drop, List.drop_left]
        exact a
section
variable {H : Type} {enc : TypeId × Value → H} {P : Program} {W : World} {sp : Nat → Bool} {held : Bool}
theorem weightsEach_get : ∀ {ts : List TypeId} {ds : List (DataW H)} {i : Nat} {t : TypeId} {d : DataW H}, ts[i]? = some t → ds[i]? = some d → ∀ k ∈ d.weights P t, k ∈ DataW.weightsEach P ts ds
  | [], _, _, _, _, h, _, _, _ => by simp at h
  | _ :: _, [], _, _, _, _, h, _, _ => by simp at h
  | t :: ts, d :: ds, 0, t', d', h1, h2, k, hk => by
    simp at h1 h2; subst h1; subst h2
    simp [DataW.weightsEach, hk]
  | t :: ts, d :: ds, i + 1, t', d', h1, h2, k, hk => by
    simp only [DataW.weightsEach, List.mem_append]
    exact .inr (weightsEach_get (by simpa using h1) (by simpa using h2) k hk)
theorem weightsAll_get {e : TypeId} : ∀ {ds : List (DataW H)} {d : DataW H}, d ∈ ds → ∀ k ∈ d.weights P e, k ∈ DataW.weightsAll P e ds
  | [], _, h, _, _ => by cases h
  | d :: ds, d', h, k, hk => by
    simp only [DataW.weightsAll, List.mem_append]
    cases h with
    | head => exact .inl hk
    | tail _ h => exact .inr (weightsAll_get h k hk)
theorem list_of {α : Type} {Q : Nat → α → Prop} : ∀ (n : Nat), (∀ i, i < n → ∃ y, Q i y) → ∃ l : List α, l.length = n ∧ ∀ (i : Nat) y, l[i]? = some y → Q i y
  | 0, _ => ⟨[], rfl, fun i y h => by simp at h⟩
  | n + 1, h => by
    obtain ⟨l, hl, hq⟩ := list_of n fun i hi => h i (by omega)
    obtain ⟨y, hy⟩ := h n (by omega)
    refine ⟨l ++ [y], by simp [hl], fun i z hz => ?_⟩
    by_cases hi : i < l.length
    · rw [List.getElem?_append_left hi] at hz; exact hq i z hz
    · rw [List.getElem?_append_right (by omega)] at hz
      have : i - l.length = 0 := by
        rcases Nat.eq_zero_or_pos (i - l.length) with h0 | h0
        · exact h0
        · rw [List.getElem?_eq_none (by simp; omega)] at hz; cases hz
      rw [this] at hz
      simp at hz
      subst hz
      have : i = n := by omega
      rw [this]; exact hy
theorem trod_E : ∀ (n fuel : Nat) (t : TypeId) (cs : List Value) (x : DataW H × List MemPlace), okT P n t = true → DataW.trod enc P W 0 sp held fuel t cs = some x → (∀ k ∈ x.1.weights P t, k ≤ reachBytes) →
    ∃ es, WT P n t es ∧ RelE W cs es
  | 0, _, _, _, _, h, _, _ => by simp [okT] at h
  | n + 1, fuel, t, cs, x, hok, hx, hw => by
    simp only [okT] at hok
    split at hok
    · rename_i hu
      obtain ⟨b, rfl, _⟩ := DataW.trod_bool hu hx
      refine ⟨[.bool b], by simp [WT, hu], rfl, fun j c e hc he => ?_⟩
      match j with
      | 0 => simp at hc he; subst hc; subst he; exact .v rfl
      | j + 1 => simp at hc
    · rename_i k hu
      obtain ⟨m, rfl, _, hwf⟩ := DataW.trod_int hu hx
      simp only [Lit.wf, Bool.and_eq_true, decide_eq_true_eq] at hwf
      refine ⟨[.v (.int k m)], by simp [WT, hu, hwf], rfl, fun j c e hc he => ?_⟩
      match j with
      | 0 => simp at hc he; subst hc; subst he; exact .v (by simpa [okV] using hwf)
      | j + 1 => simp at hc
    · rename_i hu
      obtain ⟨s, rfl, rfl, _⟩ := DataW.trod_string hu hx
      have hs : s.size ≤ maxN := by
        have := hw s.data.toList.length (by simp [DataW.weights])
        have e : s.data.toList.length = s.size := rfl
        simp only [reachBytes, maxN] at *
        omega
      refine ⟨[.v (.string s)], by simp [WT, hu, hs], rfl, fun j c e hc he => ?_⟩
      match j with
      | 0 => simp at hc he; subst hc; subst he; exact .v (by simpa [okV] using hs)
      | j + 1 => simp at hc
    · rename_i fs hu
      simp only [Bool.and_eq_true, List.all_eq_true, beq_iff_eq] at hok
      obtain ⟨xs, m, rfl, rfl, hl, hxl, hf⟩ := DataW.trod_struct hu hx
      obtain ⟨es, hr, hwt⟩ := fields_E (P := P) (W := W) (n := n) (cs := cs) fs.toList 0 _ hok.2 hl.symm (fun i f hfi => by
        have hfi' : fs[i]? = some f := by simpa using hfi
        have hi : i < xs.length := by rw [hxl]; exact (Array.getElem?_eq_some_iff.1 hfi').1
        have h1 := hf i f hfi'
        rw [List.getElem?_eq_getElem hi] at h1
        refine trod_E n m f.type _ _ (hok.1 f (List.mem_of_getElem? hfi)) h1 fun k hk => hw k ?_
        simp only [DataW.weights, hu]
        exact weightsEach_get (i := i) (by simp [hfi]) (by simp [hi]) k hk)
      rw [List.drop_zero] at hr
      refine ⟨es, ?_, hr⟩
      simp only [WT, hu]
      exact ⟨hr.1.trans hl, fun i f hfi => by simpa using (hwt i f (by simpa using hfi)).1⟩
    · rename_i e hu
      simp only [Bool.and_eq_true, beq_iff_eq, decide_eq_true_eq] at hok
      obtain ⟨⟨⟨_, hoe⟩, hbe⟩, hce⟩ := hok
      rcases DataW.trod_slice hu hx with ⟨rfl, _⟩ | ⟨a, len, cap, elems, rest, m, rfl, rfl, rfl, _, hlc, _, hel, hrows, _, _⟩
      · refine ⟨[.sl []], by simp [WT, hu], rfl, fun j c e hc he => ?_⟩
        match j with
        | 0 => simp at hc he; subst hc; subst he; exact .nils fun _ => rfl
        | j + 1 => simp at hc
      · have hlen : len ≤ maxN := by
          have := hw ((elems.length + rest.length) * P.bytesOf e) (by simp [DataW.weights, hu])
          have h1 : elems.length + rest.length ≤ (elems.length + rest.length) * P.bytesOf e := Nat.le_mul_of_pos_right _ hbe
          simp only [reachBytes, maxN] at *
          omega
        obtain ⟨rows, hrl, hrq⟩ := list_of (Q := fun i r => WT P n e r ∧ ∃ cs', W.cells? 0 (a.add (i * P.cellsOf e)) (P.cellsOf e) = some cs' ∧ RelE W cs' r) len fun i hi => by
          have h1 := hrows i hi
          have hi' : i < elems.length := by omega
          rw [List.getElem?_eq_getElem hi', Option.bind_eq_some_iff] at h1
          obtain ⟨cs', h2, h3⟩ := h1
          obtain ⟨r, w1, w2⟩ := trod_E n m e cs' _ hoe h3 fun k hk => hw k (by
            simp only [DataW.weights, hu, List.mem_cons, List.mem_append]
            exact .inr (.inl (weightsAll_get (List.mem_map.2 ⟨_, List.getElem_mem hi', rfl⟩) k hk)))
          exact ⟨r, w1, cs', h2, w2⟩
        have hcells : ∀ (i : Nat) r, rows[i]? = some r → r.length = P.cellsOf e ∧ ∀ j, j < P.cellsOf e → ∃ c, W.cell? ((a.add (i * P.cellsOf e)).add j) = some c ∧ ∀ d, r[j]? = some d → RvE W (pubAll W).pub c d := by
          intro i r hr
          obtain ⟨_, cs', h1, h2, h3⟩ := hrq i r hr
          simp only [World.cells?, Nat.zero_le, if_true] at h1
          have hcl := mapM_some_length h1
          simp only [List.length_range] at hcl
          refine ⟨h2.trans hcl, fun j hj => ?_⟩
          have h4 := mapM_some_get h1 j j (by simp [hj])
          rw [List.getElem?_eq_getElem (show j < cs'.length by omega)] at h4
          exact ⟨_, h4, fun d hd => h3 j _ d (List.getElem?_eq_getElem (by omega)) hd⟩
        refine ⟨[.sl rows], ?_, rfl, fun j c d hc hd => ?_⟩
        · simp only [WT, hu]
          refine ⟨rows, rfl, by omega, fun r hr => ?_⟩
          obtain ⟨i, hi, rfl⟩ := List.getElem_of_mem hr
          exact ⟨(hrq i _ (List.getElem?_eq_getElem hi)).1, (hcells i _ (List.getElem?_eq_getElem hi)).1⟩
        · match j with
          | j + 1 => simp at hc
          | 0 =>
            simp at hc hd
            subst hc; subst hd
            rcases Nat.eq_zero_or_pos len with h0 | h0
            · have : rows = [] := List.length_eq_zero_iff.1 (by omega)
              subst this; subst h0
              exact .nils fun h => by cases h
            · obtain ⟨b, off, spt⟩ := a
              have hsp : spt = none := by
                obtain ⟨_, h1⟩ := hcells 0 _ (List.getElem?_eq_getElem (by omega))
                obtain ⟨c, h2, _⟩ := h1 0 hce
                simp only [Nat.zero_mul, Addr.add, if_true, World.cell?] at h2
                split at h2
                · split at h2
                  · cases h2
                  · rename_i hs; simpa using hs
                · cases h2
              subst hsp
              have hcell : ∀ j, j < len * P.cellsOf e → ∃ c, W.cell? ⟨b, off + j, none⟩ = some c ∧ ∀ d, rows.flatten[j]? = some d → RvE W (pubAll W).pub c d := by
                intro j hj
                have hi : j / P.cellsOf e < rows.length := by rw [hrl]; exact Nat.div_lt_of_lt_mul (by rw [Nat.mul_comm]; exact hj)
                have hr := List.getElem?_eq_getElem hi
                obtain ⟨h1, h2⟩ := hcells _ _ hr
                obtain ⟨c, h3, h4⟩ := h2 (j % P.cellsOf e) (Nat.mod_lt _ hce)
                have hjj : j / P.cellsOf e * P.cellsOf e + j % P.cellsOf e = j := by rw [Nat.mul_comm]; exact Nat.div_add_mod j _
                rw [addr_add, addr_add, Nat.add_assoc, hjj] at h3
                refine ⟨c, h3, fun d hd => h4 d ?_⟩
                have hk : ∀ r ∈ rows, r.length = P.cellsOf e := fun r hr => by
                  obtain ⟨i, hi, rfl⟩ := List.getElem_of_mem hr
                  exact (hcells i _ (List.getElem?_eq_getElem hi)).1
                rw [← flatten_get hk _ _ _ hr (Nat.mod_lt _ hce), hjj]; exact hd
              refine .sl (k := P.cellsOf e) (fun j => (W.cell? ⟨b, off + j, none⟩).getD undef) hrl hlc (by omega) (fun r hr => ?_) (fun j hj => ?_) (fun j d hd => ?_)
              · obtain ⟨i, hi, rfl⟩ := List.getElem_of_mem hr
                exact (hcells i _ (List.getElem?_eq_getElem hi)).1
              · obtain ⟨c, h1, _⟩ := hcell j hj
                refine ⟨?_, by simp [h1]⟩
                show b < W.heap.size
                simp only [World.cell?] at h1
                split at h1
                · rename_i hb
                  exact (Array.getElem?_eq_some_iff.1 hb).1
                · cases h1
              · have hj : j < len * P.cellsOf e := by
                  have hk : ∀ r ∈ rows, r.length = P.cellsOf e := fun r hr => by
                    obtain ⟨i, hi, rfl⟩ := List.getElem_of_mem hr
                    exact (hcells i _ (List.getElem?_eq_getElem hi)).1
                  rw [← hrl, ← flatten_len hk]; exact (List.getElem?_eq_some_iff.1 hd).1
                obtain ⟨c, h1, h2⟩ := hcell j hj
                simp only [h1, Option.getD_some]
                exact h2 d hd
    · cases hok
/-- An argument that is a slice. -/
theorem arg_sl {n : Nat} {t e : TypeId} {b0 : Nat} {v : Value} {d : DataW H} {ps : List MemPlace} (ht : P.underlying t = some (.slice e)) (hok : okT P (n + 1) t = true) (hv : Value.okWide P W .any b0 t v)
    (h : DataW.Trod enc P W 0 sp held t v d ps) (hw : ∀ k ∈ d.weights P t, k ≤ reachBytes) : ∃ rows, Rv W (pubAll W) (hpF []) v (.e (.sl rows)) ∧ ∀ r ∈ rows, WT P n e r ∧ r.length = P.cellsOf e := by
  obtain ⟨a, len, cap, rfl⟩ := okWide_slice ht hv
  obtain ⟨fuel, hf⟩ := h
  obtain ⟨es, w1, _, r1⟩ := trod_E (n + 1) fuel t _ _ hok hf hw
  simp only [WT, ht] at w1
  obtain ⟨rows, rfl, _, h3⟩ := w1
  exact ⟨rows, .e (r1 0 _ _ (by simp [Value.cells]) rfl), h3⟩
end
end Go.Proofs.Ytfplalbognalkaa.Ab
/- What the laws of values share. -/
namespace Go.Proofs.Ytfplalbognalkaa.Ab
open Go Go.ChangeShapes Go.WideShapes Go.ChangeAt Go.RowKit
attribute [local irreducible] Try.prog
theorem own : ownKnob Try.prog.godebug = none := by kernel_rfl
theorem laid : laidOutB Try.prog = true := by kernel_rfl
theorem cs24 : Try.prog.cellsOf 154 = 2 := by kernel_rfl
theorem cs4 : Try.prog.cellsOf 4 = 1 := by kernel_rfl
theorem cs2 : Try.prog.cellsOf 2 = 1 := by kernel_rfl
theorem arg_val24 {H : Type} {enc : TypeId × Value → H} {w : World} {base b0 : Nat} {sp : Nat → Bool} {held : Bool} {v : Value} {d : DataW H} {ps : List MemPlace} (hv : Value.okWide Try.prog w .any b0 154 v) (h : DataW.Trod enc Try.prog w base sp held 154 v d ps) : ∃ b n, v = .agg #[.bool b, .int .i64 n] ∧ i64 n :=
  arg_val (tb := 4) (ti := 2) Try.underlying154 cs24 ⟨rfl, rfl⟩ ⟨rfl, rfl⟩ Try.underlying4 Try.underlying2 cs4 cs2 hv h
end Go.Proofs.Ytfplalbognalkaa.Ab
/- Shapes of arguments. -/
namespace Go.Proofs.Ytfplalbognalkaa.Ab
open Go Go.ChangeShapes Go.WideShapes Go.ChangeAt Go.RowKit
attribute [local irreducible] Try.prog
theorem cs94 : Try.prog.cellsOf 223 = 2 := by kernel_rfl
theorem cs3 : Try.prog.cellsOf 3 = 1 := by kernel_rfl
theorem op_shape {r : List E} (h : WT Try.prog 2 223 r) : ∃ p, r = orow p := by
  simp only [WT, Try.underlying223] at h
  obtain ⟨hl, hf⟩ := h
  have h0 : WT Try.prog 1 3 ((r.drop 0).take (Try.prog.cellsOf 3)) := hf 0 _ rfl
  have h1 : WT Try.prog 1 2 ((r.drop 1).take (Try.prog.cellsOf 2)) := hf 1 _ rfl
  rw [cs94] at hl
  simp only [WT, cs3, cs2, Try.underlying3, Try.underlying2] at h0 h1
  obtain ⟨b, h0, _⟩ := h0
  obtain ⟨m, h1, _⟩ := h1
  match r, hl with
  | [x, y], _ =>
    simp at h0 h1
    exact ⟨(b, m), by rw [h0, h1]⟩
theorem ops_shape : ∀ {rows : List (List E)}, (∀ r ∈ rows, WT Try.prog 2 223 r ∧ r.length = Try.prog.cellsOf 223) → ∃ l : List (Int × Int), rows = l.map orow
  | [], _ => ⟨[], rfl⟩
  | r :: rows, h => by
    obtain ⟨p, hp⟩ := op_shape (h r (by simp)).1
    obtain ⟨l, hl⟩ := ops_shape (rows := rows) fun q hq => h q (List.mem_cons_of_mem _ hq)
    exact ⟨p :: l, by rw [hp, hl]; rfl⟩
theorem row_shape {r : List E} (h : WT Try.prog 2 154 r) : ∃ p, r = vr p := by
  simp only [WT, Try.underlying154] at h
  obtain ⟨hl, hf⟩ := h
  have h0 : WT Try.prog 1 4 ((r.drop 0).take (Try.prog.cellsOf 4)) := hf 0 _ rfl
  have h1 : WT Try.prog 1 2 ((r.drop 1).take (Try.prog.cellsOf 2)) := hf 1 _ rfl
  rw [cs24] at hl
  simp only [WT, cs4, cs2, Try.underlying4, Try.underlying2] at h0 h1
  obtain ⟨b, h0⟩ := h0
  obtain ⟨m, h1, _⟩ := h1
  match r, hl with
  | [x, y], _ =>
    simp at h0 h1
    exact ⟨(b, m), by rw [h0, h1]⟩
theorem rows_shape : ∀ {rows : List (List E)}, (∀ r ∈ rows, WT Try.prog 2 154 r ∧ r.length = Try.prog.cellsOf 154) → ∃ l : List (Bool × Int), rows = l.map vr
  | [], _ => ⟨[], rfl⟩
  | r :: rows, h => by
    obtain ⟨p, hp⟩ := row_shape (h r (by simp)).1
    obtain ⟨l, hl⟩ := rows_shape (rows := rows) fun q hq => h q (List.mem_cons_of_mem _ hq)
    exact ⟨p :: l, by rw [hp, hl]; rfl⟩
end Go.Proofs.Ytfplalbognalkaa.Ab
/- An argument that is a struct. -/
namespace Go.Proofs.Ytfplalbognalkaa.Ab
open Go Go.ChangeShapes Go.WideShapes Go.ChangeAt Go.RowKit
theorem arg_st {H : Type} {enc : TypeId × Value → H} {P : Program} {W : World} {sp : Nat → Bool} {held : Bool} {n : Nat} {t : TypeId} {fs : Array Field} {b0 : Nat} {v : Value} {d : DataW H} {ps : List MemPlace} (ht : P.underlying t = some (.struct fs)) (hok : okT P (n + 1) t = true) (hv : Value.okWide P W .any b0 t v)
    (h : DataW.Trod enc P W 0 sp held t v d ps) (hw : ∀ k ∈ d.weights P t, k ≤ reachBytes) : ∃ es, Rv W (pubAll W) (hpF []) v (.agg (es.map .e)) ∧ WT P (n + 1) t es := by
  obtain ⟨cs, rfl, hs⟩ := okWide_struct ht hv
  obtain ⟨fuel, hf⟩ := h
  obtain ⟨es, w1, l1, r1⟩ := trod_E (n + 1) fuel t _ _ hok hf hw
  have l1 : es.length = cs.size := l1
  have r1 : ∀ (j : Nat) c e, cs[j]? = some c → es[j]? = some e → RvE W (pubAll W).pub c e := fun j c e hc he => r1 j c e (by simpa [Value.cells] using hc) he
  refine ⟨es, .agg (by simp [l1]) (fun j c hc => ?_) (fun j c d hc hd => ?_), w1⟩
  · have hj : j < es.length := by rw [l1]; exact (Array.getElem?_eq_some_iff.1 hc).1
    exact (r1 j c _ hc (List.getElem?_eq_getElem hj)).cell
  · rw [List.getElem?_map] at hd
    cases he : es[j]? with
    | none => rw [he] at hd; cases hd
    | some e =>
      rw [he] at hd
      cases hd
      exact .e (r1 j c e hc he)
end Go.Proofs.Ytfplalbognalkaa.Ab
