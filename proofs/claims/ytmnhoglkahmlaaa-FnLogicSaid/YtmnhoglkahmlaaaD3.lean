/- Draws: expressions, spoilt or long. -/
import Derived.Test.YtmnhoglkahmlaaaD2
set_option linter.unusedSimpArgs false
set_option linter.unusedVariables false
set_option linter.unnecessarySimpa false
set_option linter.constructorNameAsVariable false
namespace Go.Proofs.Ytmnhoglkahmlaaa.Ab
open Go
theorem dsO_split {l : Ops} {i : Nat} (h : i < l.length) : ∃ (A B : Ops) (x : Int × Int), A.length = i ∧ l.length = i + 1 + B.length ∧ dsO l = dsO A ++ (D.int x.1 :: D.int x.2 :: dsO B) := by
  refine ⟨l.take i, l.drop (i + 1), l[i], by simp; omega, by simp; omega, ?_⟩
  have : l = l.take i ++ (l[i] :: l.drop (i + 1)) := by simp
  conv => lhs; rw [this, dsO_app]
  rfl
theorem dsO_store2 {l : Ops} {ds ds' : List D} {off : Nat} {i : Int} {a c : Int} (hd : ds = dsO l) (h : 0 ≤ i ∧ i < l.length) (ho : off = 0 + i.toNat * 2) (hd' : ds' = ds.take off ++ [D.int a, D.int c] ++ ds.drop (off + 2)) : ∃ l2 : Ops, l2.length = l.length ∧ ds' = dsO l2 := by
  obtain ⟨A, B, x, h1, h2, h3⟩ := dsO_split (l := l) (i := i.toNat) (by omega)
  have hA := dsO_len A
  refine ⟨A ++ (a, c) :: B, by simp; omega, ?_⟩
  have e : off = (dsO A).length := by omega
  rw [hd', hd, h3, e, dsO_app]
  simp
  rfl
theorem dsO_store0 {l : Ops} {ds ds' : List D} {off : Nat} {i : Int} {a : Int} (hd : ds = dsO l) (h : 0 ≤ i ∧ i < l.length) (ho : off = 0 + i.toNat * 2) (hd' : ds' = ds.take off ++ [D.int a] ++ ds.drop (off + 1)) : ∃ l2 : Ops, l2.length = l.length ∧ ds' = dsO l2 := by
  obtain ⟨A, B, x, h1, h2, h3⟩ := dsO_split (l := l) (i := i.toNat) (by omega)
  have hA := dsO_len A
  refine ⟨A ++ (a, x.2) :: B, by simp; omega, ?_⟩
  have e : off = (dsO A).length := by omega
  rw [hd', hd, h3, e, dsO_app]
  simp
  rfl
theorem dsO_store1 {l : Ops} {ds ds' : List D} {off : Nat} {i : Int} {a : Int} (hd : ds = dsO l) (h : 0 ≤ i ∧ i < l.length) (ho : off = 0 + i.toNat * 2 + 1) (hd' : ds' = ds.take off ++ [D.int a] ++ ds.drop (off + 1)) : ∃ l2 : Ops, l2.length = l.length ∧ ds' = dsO l2 := by
  obtain ⟨A, B, x, h1, h2, h3⟩ := dsO_split (l := l) (i := i.toNat) (by omega)
  have hA := dsO_len A
  refine ⟨A ++ (x.1, a) :: B, by simp; omega, ?_⟩
  have e : off = (dsO A).length + 1 := by omega
  have t1 : (dsO A ++ D.int x.1 :: D.int x.2 :: dsO B).take ((dsO A).length + 1) = dsO A ++ [D.int x.1] := by rw [List.take_append, List.take_of_length_le (by omega)]; simp
  have t2 : (dsO A ++ D.int x.1 :: D.int x.2 :: dsO B).drop ((dsO A).length + 1 + 1) = dsO B := by
    rw [List.drop_append, List.drop_eq_nil_of_le (by omega), show (dsO A).length + 1 + 1 - (dsO A).length = 2 by omega]; rfl
  rw [hd', hd, h3, e, dsO_app, t1, t2]
  simp
  rfl
theorem dsO_take (l : Ops) (n : Nat) : (dsO l).take (n * 2) = dsO (l.take n) := by
  induction l generalizing n with
  | nil => simp [dsO]
  | cons x l ih =>
    cases n with
    | zero => simp [dsO]
    | succ n =>
      have e : dsO (x :: l) = D.int x.1 :: D.int x.2 :: dsO l := rfl
      rw [e, Nat.succ_mul]
      show _ = D.int x.1 :: D.int x.2 :: dsO (l.take n)
      rw [← ih]
      rfl
theorem orow_len {l : Ops} : ∀ e ∈ l.map orow, e.length = 2 := fun e he => by obtain ⟨p, _, rfl⟩ := List.mem_map.1 he; rfl
theorem spo_fin {A : Ar} (hA : A.Ok) {es : List (List E)} {p q : Int} {l : Ops} {n j : Nat} {l' : List O} {b : Bool} {ds ds0 : List D} (h0 : hpF l' 0 = rd es q) (h1 : hpF l' j = .vec b 2 ds) (hj : (0 == j) = false) (hg : j = 1 ∨ hpF l' 1 = .gone) (hn : n = l.length) (hd : ds.take (n * 2) = dsO l) :
    A.finv [rd es p, .vec true 2 ds0] l' (.vec j n 2) [rd es q, .gone] (.e (.sl (l.map orow))) := by
  have hj : 0 ≠ j := by simpa using hj
  obtain ⟨a1, a2⟩ := hpF_set (o := .gone) (hp_lt (l := l') (i := j) (by rw [h1]; simp))
  refine hA.finv _ _ _ _ _ ((FinV.pub h1 (by simp [hn]) hd orow_len).trans (FinV.ren [0, 1] (fun _ => [rd es q, .gone]) (fun _ => .e (.sl (l.map orow))) rfl (.inl rfl) ⟨(a2 0 hj).trans h0, ?_, trivial⟩ (fun t => rfl) rfl (fun t => rfl) (by intro o ho; simp at ho; rcases ho with rfl | rfl <;> rfl)))
  rcases hg with rfl | hg
  · exact a1
  · by_cases e : 1 = j
    · subst e; exact a1
    · exact (a2 1 e).trans hg
set_option maxRecDepth 100000 in
set_option maxHeartbeats 2000000 in
theorem ok101 {es : List (List E)} {p : Int} (h : RdOk es p) {l : Ops} {m0 : Nat} {ds0 : List D} (hm0 : m0 = l.length) (hds0 : ds0 = dsO l) (hl : l.length ≤ 6000) {w : Int} (hw : -1000 ≤ w ∧ w ≤ 1000) : ∃ x : Ops × Int, (RdOk es x.2 ∧ x.1.length ≤ 6001) ∧
    Proc Try.prog 101 (fun t => [.ref (t 0) 0, .vec (t 1) m0 2, .int w]) (fun _ => [rd es p, .vec true 2 ds0]) (fun _ => .e (.sl (x.1.map orow))) (fun _ => [rd es x.2, .gone]) := by
  refine procEx (args := fun t => [.ref (t 0) 0, .vec (t 1) m0 2, .int w]) (l0 := fun _ => [rd es p, .vec true 2 ds0]) mixed (fun x : Ops × Int => RdOk es x.2 ∧ x.1.length ≤ 6001) (fun x _ => .e (.sl (x.1.map orow))) (fun x _ => [rd es x.2, .gone]) p101 ⟨([], p), h, by simp⟩
    (fun x _ => ⟨fun t => rfl, rfl, fun t => by simp [O.ren, hds0, dsO_ren, rens, D.ren], by intro o ho; simp at ho; rcases ho with rfl | rfl <;> simp [O.lt, hds0, dsO_lt, lts, D.lt], fun t => rfl, fun t => rfl, by simp⟩) fun A P hA hP => ?_
  have hR := h
  have hdl : ds0.length = m0 * 2 := by rw [hds0, dsO_len, hm0]
  cbv
  repeat' first | with_reducible rfl | with_reducible refine And.intro ?_ ?_ | ((with_reducible intro hcc); first | (cases hcc; done) | skip) | ((with_reducible show goC _ _ _ _ _ _ _ _); cbv) | ((with_reducible show goOps _ _ _ _ _); cbv) | ((with_reducible show okWr _ _ = _); rfl) | ((with_reducible show A.call _ _ _ _ _ 74 _ _ _); obtain ⟨⟨v, q⟩, ⟨⟨hv0, hv1⟩, hR⟩, hc⟩ := ok74 hR; refine callK_pr hA hP [0] (by rfl) (by exact ⟨rfl, trivial⟩) (Wks.refl _) ?_ (fun _ _ => hc) hc.side; cbv) | ((with_reducible show A.call _ _ _ _ _ 105 _ _ _); obtain ⟨⟨⟨v1, v2⟩, q'⟩, hR, hc⟩ := ok105 hR; refine callK_pr hA hP [0] (by rfl) (by exact ⟨rfl, trivial⟩) (Wks.refl _) ?_ (fun _ _ => hc) hc.side; cbv) | ((with_reducible refine hA.fin_pl _ _ _ ?_); cbv) | ((with_reducible refine hA.len _ _ _ _ _ fun z hz hb => ?_); cbv) | ((with_reducible refine hA.slen _ _ _ _ _ fun z hz hb => ?_); cbv) | ((with_reducible refine hA.off _ _ _ _ fun b hb => ?_); cbv) | ((with_reducible refine hA.plus _ _ _ fun b hb => ?_); cbv) | ((with_reducible refine hA.rep _ _ _ fun ds m hds hm => ?_); cbv) | ((with_reducible refine hA.app _ _ _ _ _ ⟨?_, fun zs m hzs hm => ?_⟩); rotate_left; cbv) | ((with_reducible refine hA.app0 _ _ _ ⟨?_, fun m hm => ?_⟩); rotate_left; cbv) | ((with_reducible refine hA.slc _ _ _ _ _ ⟨?_, fun zs hzs => ?_⟩); rotate_left; cbv) | ((with_reducible refine hA.st _ _ _ _ _ ⟨?_, fun ds hds => ?_⟩); rotate_left; cbv) | ((with_reducible refine hA.alt _ _ (Or.inl ?_)); cbv) | ((with_reducible refine hA.appv _ _ _ _ _ _ ⟨?_, fun bb m ds hbb hm hds => ?_⟩); rotate_left; cbv) | ((with_reducible refine hA.vsl _ _ _ _ ⟨?_, fun m hm => ?_⟩); rotate_left; cbv) | ((with_reducible refine hA.vcut _ _ _ _ ⟨?_, fun cs hcs => ?_⟩); rotate_left; cbv) | ((with_reducible refine hA.appw _ _ _ _ _ _ _ ⟨?_, fun bb m ds hbb hm hds => ?_⟩); rotate_left; cbv) | ((with_reducible refine hA.six _ _ _ fun z6 c hz6 hc hc2 => ?_); cbv) | ((with_reducible refine hA.ssl _ _ _ _ ⟨?_, fun sl hsl => ?_⟩); rotate_left; cbv) | ((with_reducible refine hA.sapp _ _ _ ⟨?_, fun sl hsl => ?_⟩); rotate_left; cbv) | ((with_reducible refine hA.s2b _ _ fun es hes => ?_); cbv) | ((with_reducible refine hA.gb0 true _ ?_); cbv) | ((with_reducible refine hA.gb0 false _ ?_); cbv) | ((with_reducible refine hA.gb _ _ fun vb hvb => ?_); cbv) | ((with_reducible refine hA.mget _ _ _ _ ⟨fun mv hmv => ?_, fun hmv => ?_⟩) <;> cbv) | ((with_reducible refine hA.mset _ _ _ _ fun ml hml => ?_); cbv) | (simp only [hA.natLit, hA.natOf, hA.natCast]; cbv)
  all_goals try simp only [hA.add, hA.sub, hA.mul, hA.neg, hA.div, hA.mod, hA.mn, hA.mx, hA.eq, hA.lt, hA.le, hA.nat, hA.R, hA.lep, hA.ltp, hA.seq, inR, n_cast, Int.ofNat_eq_natCast, Option.getD_some, Option.getD_none] at *
  all_goals first
    | omega
    | (simp at *; omega)
    | exact Int.emod_nonneg _ (by simp at *; omega)
    | exact Int.emod_lt_of_pos _ (by simp at *; omega)
    | exact Int.le_of_lt (Int.emod_lt_of_pos _ (by simp at *; omega))
    | exact ⟨rfl, trivial⟩
    | exact gImp_iff.2 fun h => by simpa using h
    | (have q1 := Int.emod_nonneg v (b := m0) (by simp at *; omega); have q2 := Int.emod_lt_of_pos v (b := m0) (by simp at *; omega); omega)
    | (have e9 : ds = dsO (l ++ [(v1, v2)]) := by rw [hds, hds0, dsO_cut hm0, dsO_app]; rfl
       exact ⟨(l ++ [(v1, v2)], _), ⟨hR, by simp; omega⟩, spo_fin hA rfl rfl rfl (.inr rfl) (by rw [hm, hm0]; simp) (by rw [e9]; exact dsO_cut (by rw [hm, hm0]; simp))⟩)
    | (have e9 : ds = dsO (l ++ [(5, 0)]) := by rw [hds, hds0, dsO_cut hm0, dsO_app]; rfl
       exact ⟨(l ++ [(5, 0)], _), ⟨hR, by simp; omega⟩, spo_fin hA rfl rfl rfl (.inr rfl) (by rw [hm, hm0]; simp) (by rw [e9]; exact dsO_cut (by rw [hm, hm0]; simp))⟩)
    | (have m1 : (m0 : Int) ≠ 0 := by clear hR h hc; simp at *; omega
       have q1 : 0 ≤ v % (m0 : Int) := Int.emod_nonneg _ m1
       have q2 : v % (m0 : Int) < m0 := Int.emod_lt_of_pos _ (by omega)
       have e7 : b = 0 + (v % (m0 : Int)).toNat * 2 + 1 := by omega
       have q3 : v % (m0 : Int) < l.length := by rw [← hm0]; exact q2
       obtain ⟨l2, e1, e2⟩ := dsO_store1 hds0 ⟨q1, q3⟩ e7 hds
       exact ⟨(l2, _), ⟨hR, by show l2.length ≤ _; omega⟩, spo_fin hA rfl rfl rfl (.inl rfl) (by show m0 = l2.length; omega) (by rw [e2]; exact dsO_cut (by omega))⟩)
    | (have m1 : (m0 : Int) ≠ 0 := by clear hR h hc; simp at *; omega
       have q1 : 0 ≤ v % (m0 : Int) := Int.emod_nonneg _ m1
       have q2 : v % (m0 : Int) < m0 := Int.emod_lt_of_pos _ (by omega)
       have e7 : b = 0 + (v % (m0 : Int)).toNat * 2 := by omega
       have q3 : v % (m0 : Int) < l.length := by rw [← hm0]; exact q2
       obtain ⟨l2, e1, e2⟩ := dsO_store0 hds0 ⟨q1, q3⟩ e7 hds
       exact ⟨(l2, _), ⟨hR, by show l2.length ≤ _; omega⟩, spo_fin hA rfl rfl rfl (.inl rfl) (by show m0 = l2.length; omega) (by rw [e2]; exact dsO_cut (by omega))⟩)
    | (have m1 : (m0 : Int) ≠ 0 := by clear hR h hc; simp at *; omega
       have q1 : 0 ≤ v % (m0 : Int) := Int.emod_nonneg _ m1
       have q2 : v % (m0 : Int) < m0 := Int.emod_lt_of_pos _ (by omega)
       have e7 : b = 0 + (v % (m0 : Int)).toNat * 2 := by omega
       have q3 : v % (m0 : Int) < l.length := by rw [← hm0]; exact q2
       obtain ⟨l2, e1, e2⟩ := dsO_store2 hds0 ⟨q1, q3⟩ e7 hds
       exact ⟨(l2, _), ⟨hR, by show l2.length ≤ _; omega⟩, spo_fin hA rfl rfl rfl (.inl rfl) (by show m0 = l2.length; omega) (by rw [e2]; exact dsO_cut (by omega))⟩)
    | exact ⟨(l.take m, _), ⟨hR, by simp; omega⟩, spo_fin hA rfl rfl rfl (.inl rfl) (by have q2 := Int.emod_lt_of_pos v (b := m0) (by simp at *; omega); simp; omega) (by rw [hds0]; exact dsO_take _ _)⟩
    | exact ⟨(l.take m, _), ⟨hR, by simp; omega⟩, spo_fin hA rfl rfl rfl (.inl rfl) (by simp; simp at hm; omega) (by rw [hds0]; exact dsO_take _ _)⟩
    | (clear hR h; grind)
    | exact ⟨(l, _), ⟨hR, by omega⟩, spo_fin hA rfl rfl rfl (.inl rfl) hm0 (by rw [hds0]; exact dsO_cut hm0)⟩
    | (trace_state; fail)
end Go.Proofs.Ytmnhoglkahmlaaa.Ab
